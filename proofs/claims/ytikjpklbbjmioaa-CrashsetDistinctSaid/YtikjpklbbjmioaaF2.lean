/- The law's mod, sameWrites. The law's Same: the strings. -/
import Derived.Test.YtikjpklbbjmioaaE11
import Derived.Laws.StructEq
import Derived.Laws.IdiomStrings
import Derived.Deep.RegionWith
import Derived.Deep.DeepCutAuto
/-! The law's mod, sameWrites. -/
namespace Go.Proofs.Ytikjpklbbjmioaa
open Go.RowKit Go.Maps
variable {w : World} {F : Own} {o h T : Nat} {R : Dv}

theorem mod_any (w : World) (a : Int) (n : Nat) (h1 : 1 ≤ n) (h2 : n ≤ 1000) (ha : -9223372036854775808 ≤ a ∧ a ≤ 9223372036854775807) :
    Calls Try.prog 84 #[.int .i64 a, .int .i64 (n : Int)] w fun e w' => e = .returned (.int .i64 (a % (n : Int))) ∧ w = w' := by
  have _h := ha
  have hn0 : ¬ (n : Int) = 0 := by omega
  have hn1 : decide ((n : Int) = 0) = false := decide_eq_false hn0
  have hr1 : a.tmod (n : Int) < (n : Int) := Int.tmod_lt_of_pos _ (by omega)
  have hr2 : -(n : Int) < a.tmod (n : Int) := by
    rcases Int.le_total 0 a with h | h
    · have := Int.tmod_nonneg (n : Int) h; omega
    · have h3 : (-a).tmod (n : Int) = -(a.tmod (n : Int)) := Int.neg_tmod _ _
      have h4 : (-a).tmod (n : Int) < (n : Int) := Int.tmod_lt_of_pos _ (by omega)
      omega
  have hr3 : (a.tmod (n : Int) + (n : Int)).tmod (n : Int) = a % (n : Int) := by
    rw [Int.tmod_eq_emod_of_nonneg (by omega), Int.add_emod_right]
    have := Int.tmod_add_mul_tdiv a (n : Int)
    have e : a % (n : Int) = (a.tmod (n : Int) + (n : Int) * a.tdiv (n : Int)) % (n : Int) := by rw [this]
    rw [e, Int.add_mul_emod_self_left]
  generalize hr : a.tmod (n : Int) = r at *
  have hw : wrap64 (r + (n : Int)) = r + (n : Int) := by unfold wrap64; omega
  have hw0 : wrap64 r = r := by unfold wrap64; omega
  have hm1 : 0 ≤ a % (n : Int) := Int.emod_nonneg _ hn0
  have hm2 : a % (n : Int) < (n : Int) := Int.emod_lt_of_pos _ (by omega)
  generalize a % (n : Int) = m at *
  have hw2 : wrap64 m = m := by unfold wrap64; omega
  replace hr := Lib.hid hr
  replace hr3 := Lib.hid hr3
  replace hw := Lib.hid hw
  replace hw0 := Lib.hid hw0
  replace hw2 := Lib.hid hw2
  go_enter Try.func84, Try.ntmps84
  go_wp2_with fail
  go_ret
  exact ⟨by rw [hr.out, hw.out, hr3.out]; rfl, rfl⟩

set_option maxHeartbeats 2000000 in
set_option maxRecDepth 100000 in
theorem samew_any (w : World) (ps : List (Nat × Nat)) (va vb : Option Addr) (ca cb : Nat) (hl : ps.length ≤ 100000) (ha : Rd w (.slice va ps.length ca) ps.length (wcells ps)) (hb : Rd w (.slice vb ps.length cb) ps.length (wcells ps)) :
    Calls Try.prog 69 #[.slice va ps.length ca, .slice vb ps.length cb] w fun e w' => e = .returned (.bool true) ∧ ∃ m, w.drewN m = w' := by
  go_enter Try.func69, Try.ntmps69
  go_wp2_with fail
  go_loopw [13] (fun i wr => ∃ k : Nat, k ≤ ps.length ∧ i = .int .i64 k ∧ ∃ m, w.drewN m = wr) (fun i _ => ps.length - (intOf i).toNat)
  case atStart => exact ⟨0, Nat.zero_le _, rfl, 0, rfl⟩
  case round =>
    obtain ⟨k, hk, rfl, m, hm⟩ := hrel
    by_cases hlt : k < ps.length
    · have hkI : (k : Int) < (ps.length : Int) := by omega
      have hk0 : (0 : Int) ≤ (k : Int) := by omega
      have hA := ha.drewN m
      have hB := hb.drewN m
      rw [hm] at hA hB
      replace hm := Lib.hid hm
      have hat := get_of_lt (0, 0) hlt
      generalize ps.getD k (0, 0) = p at *
      obtain ⟨p1, p2⟩ := p
      obtain ⟨bl, ol, cl, ea, fa⟩ := hA.cells (by omega)
      simp only [Value.slice.injEq, true_and] at ea
      obtain ⟨rfl, h1⟩ := ea
      replace h1 := Lib.hid h1
      obtain ⟨bm, om, cm, eb, fb⟩ := hB.cells (by omega)
      simp only [Value.slice.injEq, true_and] at eb
      obtain ⟨rfl, h2⟩ := eb
      replace h2 := Lib.hid h2
      have c0 : wr.cell? ⟨bl, ol + k * 2, none⟩ = _ := fa _ _ (wcells_get ps k _ hat).1
      have c1 : wr.cell? ⟨bl, ol + k * 2 + 1, none⟩ = _ := fa _ _ (wcells_get ps k _ hat).2
      have c2 : wr.cell? ⟨bm, om + k * 2, none⟩ = _ := fb _ _ (wcells_get ps k _ hat).1
      have c3 : wr.cell? ⟨bm, om + k * 2 + 1, none⟩ = _ := fb _ _ (wcells_get ps k _ hat).2
      simp only at c0 c1 c2 c3
      replace hat := Lib.hid hat
      clear fa fb ha hb hA hB
      go_wp2_with fail
      go_quiet (fail)
      go_wp2_with fail
      exact ⟨⟨k + 1, by omega, by go_num, m + nq, by rw [← hm.out]; simp⟩, by simp [intOf]; omega⟩
    · obtain rfl : k = ps.length := by omega
      clear ha hb
      subst hm
      go_wp2_with fail
      go_ret
      exact ⟨rfl, m, rfl⟩
end Go.Proofs.Ytikjpklbbjmioaa

/-! The law's Same: the strings. -/
namespace Go.Proofs.Ytikjpklbbjmioaa
open Go.RowKit Go.Maps
variable {w : World} {F : Own} {o h T : Nat} {R : Dv}

def strOf (bs : List Nat) : ByteArray := ⟨(bs.map UInt8.ofNat).toArray⟩
theorem add_zero' (b j : Nat) : (⟨b, 0, none⟩ : Addr).add j = ⟨b, j, none⟩ := by
  unfold Addr.add
  split
  · simp_all
  · simp
theorem byte_at {bs : List Nat} {j : Nat} (hj : j < bs.length) (hx : bs.getD j 0 < 256) : some (Value.int .u8 ((bs.getD j 0 : Nat) : Int)) = some (Value.int .u8 ((((bs.map UInt8.ofNat)[j]'(by rw [List.length_map]; exact hj)).toNat : Nat) : Int)) := by
  have e : (bs.map UInt8.ofNat)[j]'(by rw [List.length_map]; exact hj) = UInt8.ofNat (bs.getD j 0) := by
    rw [List.getElem_map, List.getD_eq_getElem?_getD, List.getElem?_eq_getElem hj, Option.getD_some]
  rw [e, UInt8.toNat_ofNat_of_lt' (by simpa using hx)]
theorem conv_has {w : World} {b : Nat} {bs : List Nat} (hH : Has w b (u8s bs) 5) (hb : ∀ x ∈ bs, x < 256) (c : Nat) :
    (convert 31 9 (.slice (some ⟨b, 0, none⟩) bs.length c)).run Try.prog w = .ok (.string (strOf bs)) w := by
  have := run_convert_bytes_back (P := Try.prog) w 31 9 5 ⟨b, 0, none⟩ c (bs.map UInt8.ofNat) Try.underlying31 Try.underlying5 Try.underlying9 (fun j hj => by
    simp only [List.length_map] at hj
    have hat := get_of_lt 0 hj
    have hx := hb _ (List.mem_of_getElem? hat)
    have := hH.cell (o := j) (u8s_get bs j _ hat)
    rw [add_zero' b j, this]
    exact byte_at hj hx)
  rw [List.length_map] at this
  exact this
theorem bytesL_256 (ws : List Nat) : ∀ x ∈ bytesL ws, x < 256 := by
  intro x hx
  unfold bytesL at hx
  simp only [List.mem_map] at hx
  obtain ⟨i, _, rfl⟩ := hx
  exact Nat.mod_lt _ (by omega)
/-- A slice of bytes that turns into this string, in every world to come. -/
def Str (w : World) (v : Value) (s : ByteArray) : Prop := ∀ w', Below w.heap.size w w' → (convert 31 9 v).run Try.prog w' = .ok (.string s) w'
theorem Str.up {w w1 : World} {v : Value} {s : ByteArray} (h : Str w v s) (hb : Below w.heap.size w w1) : Str w1 v s := fun w' h' => h w' (hb.trans (h'.mono hb.size))
theorem Has.str {w : World} {b : Nat} {bs : List Nat} (hH : Has w b (u8s bs) 5) (hb : ∀ x ∈ bs, x < 256) (c : Nat) : Str w (.slice (some ⟨b, 0, none⟩) bs.length c) (strOf bs) :=
  fun _ hB => conv_has (hH.only (Only.of_below hB) (Nat.not_le.2 hH.lt)) hb c
theorem Grow.str {wq w : World} {a : Option Addr} {c : Nat} {bs : List Nat} (hG : Grow wq w 5 a bs.length c (u8s bs)) (hb : ∀ x ∈ bs, x < 256) (hn : 0 < bs.length) : Str w (.slice a bs.length c) (strOf bs) := by
  have hown := hG.own
  rcases hown.2 with ⟨h1, h2⟩ | ⟨g, cap, cur, h1, h2, h3, h4, h5, h6, h7⟩
  · omega
  · cases h1
    intro w' hB
    have hr := (Rd.of_own hown).kept hB
    obtain ⟨bl, ol, cl, ea, fa⟩ := hr.cells hn
    simp only [Value.slice.injEq, Option.some.injEq, Addr.mk.injEq, true_and, and_true] at ea
    obtain ⟨⟨rfl, rfl⟩, hc⟩ := ea
    have := run_convert_bytes_back (P := Try.prog) w' 31 9 5 ⟨g, 0, none⟩ c (bs.map UInt8.ofNat) Try.underlying31 Try.underlying5 Try.underlying9 (fun j hj => by
      simp only [List.length_map] at hj
      have hat := get_of_lt 0 hj
      have hx := hb _ (List.mem_of_getElem? hat)
      have := fa _ _ (u8s_get bs j _ hat)
      rw [Nat.zero_add] at this
      rw [add_zero' g j, this]
      exact byte_at hj hx)
    rw [List.length_map] at this
    exact this
end Go.Proofs.Ytikjpklbbjmioaa
