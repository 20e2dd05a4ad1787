/- The law's mod, sameWrites. The law's Same: the strings. The law's Same. -/
import Derived.Test.YtjmdibgncaljaaaE11
import Derived.Laws.StructEq
import Derived.Laws.IdiomStrings
import Derived.Deep.RegionWith
import Derived.Deep.DeepCutAuto
import Derived.LaidEqlPtr
/-! The law's mod, sameWrites. -/
namespace Go.Proofs.Ytjmdibgncaljaaa.Dev
open Go.RowKit Go.Maps
variable {w : World} {F : Own} {o h T : Nat} {R : Dv}

end Go.Proofs.Ytjmdibgncaljaaa.Dev

/-! The law's Same: the strings. -/
namespace Go.Proofs.Ytjmdibgncaljaaa.Dev
open Go.RowKit Go.Maps
variable {w : World} {F : Own} {o h T : Nat} {R : Dv}

def strOf (bs : List Nat) : ByteArray := ⟨(bs.map UInt8.ofNat).toArray⟩
theorem add_zero' (b j : Nat) : (⟨b, 0, none⟩ : Addr).add j = ⟨b, j, none⟩ := by
  unfold Addr.add
  split
  · simp_all
  · simp
theorem byte_at {bs : List Nat} {j : Nat} (hj : j < bs.length) (hx : bs.getD j 0 < 256) : some (Value.int .u8 ((bs.getD j 0 : Nat) : Int)) = some (Value.int .u8 ((((bs.map UInt8.ofNat)[j]'(by rw [List.length_map]; exact hj)).toNat : Nat) : Int)) := by
  have e : (bs.map UInt8.ofNat)[j]'(by rw [List.length_map]; exact hj) = UInt8.ofNat (bs.getD j 0) := by
    rw [List.getElem_map, List.getD_eq_getElem?_getD, List.getElem?_eq_getElem hj, Option.getD_some]
  rw [e, UInt8.toNat_ofNat_of_lt' (by simpa using hx)]
theorem conv_has {w : World} {b : Nat} {bs : List Nat} (hH : Has w b (u8s bs) 5) (hb : ∀ x ∈ bs, x < 256) (c : Nat) :
    (convert 28 9 (.slice (some ⟨b, 0, none⟩) bs.length c)).run Try.prog w = .ok (.string (strOf bs)) w := by
  have := run_convert_bytes_back (P := Try.prog) w 28 9 5 ⟨b, 0, none⟩ c (bs.map UInt8.ofNat) Try.underlying28 Try.underlying5 Try.underlying9 (fun j hj => by
    simp only [List.length_map] at hj
    have hat := get_of_lt 0 hj
    have hx := hb _ (List.mem_of_getElem? hat)
    have := hH.cell (o := j) (u8s_get bs j _ hat)
    rw [add_zero' b j, this]
    exact byte_at hj hx)
  rw [List.length_map] at this
  exact this
theorem bytesL_256 (ws : List Nat) : ∀ x ∈ bytesL ws, x < 256 := by
  intro x hx
  unfold bytesL at hx
  simp only [List.mem_map] at hx
  obtain ⟨i, _, rfl⟩ := hx
  exact Nat.mod_lt _ (by omega)
/-- A slice of bytes that turns into this string, in every world to come. -/
def Str (w : World) (v : Value) (s : ByteArray) : Prop := ∀ w', Below w.heap.size w w' → (convert 28 9 v).run Try.prog w' = .ok (.string s) w'
theorem Str.up {w w1 : World} {v : Value} {s : ByteArray} (h : Str w v s) (hb : Below w.heap.size w w1) : Str w1 v s := fun w' h' => h w' (hb.trans (h'.mono hb.size))
theorem _root_.Go.Proofs.Ytjmdibgncaljaaa.Has.str {w : World} {b : Nat} {bs : List Nat} (hH : Has w b (u8s bs) 5) (hb : ∀ x ∈ bs, x < 256) (c : Nat) : Str w (.slice (some ⟨b, 0, none⟩) bs.length c) (strOf bs) :=
  fun _ hB => conv_has (hH.only (Only.of_below hB) (Nat.not_le.2 hH.lt)) hb c
theorem Grow.str {wq w : World} {a : Option Addr} {c : Nat} {bs : List Nat} (hG : Grow wq w 5 a bs.length c (u8s bs)) (hb : ∀ x ∈ bs, x < 256) (hn : 0 < bs.length) : Str w (.slice a bs.length c) (strOf bs) := by
  have hown := hG.own
  rcases hown.2 with ⟨h1, h2⟩ | ⟨g, cap, cur, h1, h2, h3, h4, h5, h6, h7⟩
  · omega
  · cases h1
    intro w' hB
    have hr := (Rd.of_own hown).kept hB
    obtain ⟨bl, ol, cl, ea, fa⟩ := hr.cells hn
    simp only [Value.slice.injEq, Option.some.injEq, Addr.mk.injEq, true_and, and_true] at ea
    obtain ⟨⟨rfl, rfl⟩, hc⟩ := ea
    have := run_convert_bytes_back (P := Try.prog) w' 28 9 5 ⟨g, 0, none⟩ c (bs.map UInt8.ofNat) Try.underlying28 Try.underlying5 Try.underlying9 (fun j hj => by
      simp only [List.length_map] at hj
      have hat := get_of_lt 0 hj
      have hx := hb _ (List.mem_of_getElem? hat)
      have := fa _ _ (u8s_get bs j _ hat)
      rw [Nat.zero_add] at this
      rw [add_zero' g j, this]
      exact byte_at hj hx)
    rw [List.length_map] at this
    exact this
end Go.Proofs.Ytjmdibgncaljaaa.Dev

namespace Go.Proofs.Ytjmdibgncaljaaa.Dev
open Go.RowKit Go.Maps
variable {w : World} {F : Own} {o h T : Nat} {R : Dv}

def Qc (w : World) (f : Nat) (args : Array Value) (v : Value) : Prop := ∀ n, Calls Try.prog f args (w.drewN n) fun e w' => e = .returned v ∧ ∃ m, w' = w.drewN m
theorem qc_of {w : World} {f : Nat} {args : Array Value} {v : Value} (h : ∀ n, Calls Try.prog f args (w.drewN n) fun e w' => e = .returned v ∧ w.drewN n = w') : Qc w f args v :=
  fun n => (h n).mono fun _ _ ⟨a, b⟩ => ⟨a, n, b.symm⟩
/-- A call that returns a slice of bytes of this text. -/
def SPost (w : World) (s : ByteArray) (e : Ending) (w' : World) : Prop := ∃ v, e = .returned v ∧ Str w' v s ∧ Below w.heap.size w w'
theorem BytesPost.s {w : World} {ws : List Nat} {e : Ending} {w' : World} (h : BytesPost w (bytesL ws) e w') : SPost w (strOf (bytesL ws)) e w' := by
  obtain ⟨b, h1, h2, h3, _⟩ := h
  exact ⟨_, h1, h2.str (bytesL_256 _) _, h3⟩
theorem NewBytes.s {w : World} {ws : List Nat} {e : Ending} {w' : World} (h : NewBytes w (bytesL ws) e w') (hn : 0 < ws.length) : SPost w (strOf (bytesL ws)) e w' := by
  obtain ⟨a, c, h1, h2⟩ := h
  exact ⟨_, h1, h2.str (bytesL_256 _) (by rw [bytesL_len]; omega), h2.b⟩
theorem Fr.drew {B : Nat} {w w' : World} (h : Below B w w') : Below B w w'.drew := below_drewN h 1
theorem Fr.step {w w1 w2 : World} (h : Below w.heap.size w w1) (h' : Below w1.heap.size w1 w2) : Below w.heap.size w w2 := h.trans (h'.mono h.size)

theorem run_neq_ptr_same {P : Program} (w : World) {tp te : TypeId} {j : TypeInfo} (a : Addr) (hp : P.underlying tp = some (.pointer te)) (hte : P.info? te = some j) :
    (binOp .neq tp (.pointer (some a)) (.pointer (some a))).run P w = .ok (.bool false) w := by
  have h : ∀ d : Nat, (Op.equalIn (d + 1) tp (.pointer (some a)) (.pointer (some a))).run P w = .ok true w := fun d => by
    simp [Op.equalIn, run_underlying hp, sizeOf, typeInfo, hte, run_sameAddr_same]
  simp only [binOp]
  simp [Op.equal, Op.maxDepth, h 9999]
theorem infoThrEx : (Try.prog.info? 174).isSome = true := by kernel_rfl
theorem neq_thr (w : World) (a : Addr) : (binOp .neq 67 (.pointer (some a)) (.pointer (some a))).run Try.prog w = .ok (.bool false) w := by
  obtain ⟨j, hj⟩ := Option.isSome_iff_exists.1 infoThrEx
  exact run_neq_ptr_same w a Try.underlying67 hj
def aggE (es : List Nat) : Value := .agg #[.int .i64 ((wat es 0 : Nat) : Int), .int .i64 ((wat es 1 : Nat) : Int), .int .i64 ((wat es 2 : Nat) : Int), .int .i64 ((wat es 3 : Nat) : Int), .int .i64 ((wat es 4 : Nat) : Int), .int .i64 ((wat es 5 : Nat) : Int), .int .i64 ((wat es 6 : Nat) : Int), .int .i64 ((wat es 7 : Nat) : Int)]
end Go.Proofs.Ytjmdibgncaljaaa.Dev
