/- What the library's functions give here, in one place. -/
import Derived.Test.YtpjbcadelmjmfaaGreatDoorRows
import Derived.Test.YtpjbcadelmjmfaaGreatDoorR11
import Derived.Test.YtpjbcadelmjmfaaGreatDoorCmp
import Derived.Test.YtpjbcadelmjmfaaGreatDoorNum
import Derived.Test.YtpjbcadelmjmfaaGreatDoorShelf
import Derived.Lib.AppendIntMem
import Derived.Lib.AtoiErrMem
namespace Go.Proofs.YtpjbcadelmjmfaaGreatDoor
open Go.RowKit Go.Lib
theorem var_below {P : Program} {n : String} {g : Nat} {x : Array Value} {w w' : World} (hg : P.globalNamed n = some g) (h : w.var? P n = some x) (hb : Below w.heap.size w w') : w'.var? P n = some x := by
  unfold World.var? at h ⊢
  rw [hg] at h ⊢
  simp only [Option.bind_some] at h ⊢
  have hlt : g < w.heap.size := by
    rcases Nat.lt_or_ge g w.heap.size with h' | h'
    · exact h'
    · rw [Array.getElem?_eq_none h'] at h; cases h
  rw [hb.block g hlt]
  exact h
theorem gPow : Tryz.prog.globalNamed "internal/strconv.uint64pow10" = some 3 := by kernel_rfl
theorem gRange : Tryz.prog.globalNamed "strconv.ErrRange" = some 5 := by kernel_rfl
/-- The library's tables and variables, as the program's start lays them. -/
structure Env (w : World) : Prop where
  u8 : Utf8Tabs 0 1 w
  ml : ∃ m : Int, w.cell? ⟨2, 0, none⟩ = some (.int .i64 m)
  pw : TabIs Tryz.prog w "internal/strconv.uint64pow10" .u64 pow10Tab
  er : ∃ tp p, w.var? Tryz.prog "strconv.ErrRange" = some #[.iface tp p]
theorem Env.below {w w' : World} (h : Env w) (hb : Below w.heap.size w w') : Env w' := by
  obtain ⟨m, hm⟩ := h.ml
  obtain ⟨tp, p, he⟩ := h.er
  exact ⟨Utf8Tabs_below h.u8 hb, ⟨m, cellk hb hm⟩, var_below gPow h.pw hb, tp, p, var_below gRange he hb⟩

theorem validstr_any (s : ByteArray) (w : World) (hs : s.size ≤ 9223372036854775807) (hE : Env w) :
    Calls Tryz.prog 66 #[.string s] w fun e w' => e = .returned (.bool (validD s.data.toList)) ∧ Below w.heap.size w w' := Any.utf8_ValidString Tryz.laysValid s w hs hE.u8
theorem strcmp_any (a b : ByteArray) (w : World) : Calls Tryz.prog 55 #[.string a, .string b] w fun e w' => e = .returned (.int .i64 (compareBytes a.data.toList b.data.toList)) ∧ w' = w := Tryz.strings_Compare a b w
theorem cmpint_any (x y : Int) (w : World) : Calls Tryz.prog 52 #[.int .i64 x, .int .i64 y] w fun e w' => e = .returned (.int .i64 (compareInt x y)) ∧ w' = w := Tryz.cmp_Compare_int x y w
theorem itoa_any (n : Int) (h0 : -9223372036854775808 ≤ n) (h1 : n ≤ 9223372036854775807) (w : World) (hE : Env w) :
    Calls Tryz.prog 43 #[.int .i64 n, .int .i64 10] w fun e w' => e = .returned (.string ⟨(itoa n).toArray⟩) ∧ Below w.heap.size w w' :=
  (Tryz.strconv_FormatInt_10 n h0 h1 w hE.pw).mono fun e w' ⟨he, k, os, hw⟩ => ⟨he, hw ▸ below_grow _ w (Nat.le_refl _) k os⟩
theorem replall_any (s old new : ByteArray) (w : World) (hE : Env w) (hs : s.size < 4294967281) (h1 : 1 ≤ old.size) (hlen : s.size + countB s old * new.size ≤ 140737488355328) :
    Calls Tryz.prog 44 #[.string s, .string old, .string new] w fun e w' => e = .returned (.string ⟨(replaceAll s.data.toList old.data.toList new.data.toList).toArray⟩) ∧ Below w.heap.size w w' := by
  obtain ⟨m, hm⟩ := hE.ml
  exact Tryz.strings_ReplaceAll s old new m w hs hm h1 hlen
theorem trimpre_any (s p : ByteArray) (w : World) : Calls Tryz.prog 47 #[.string s, .string p] w fun e w' => e = .returned (.string ⟨(trimPrefix s.data.toList p.data.toList).toArray⟩) ∧ w' = w := Tryz.strings_TrimPrefix s p w
theorem info116 : (Tryz.prog.info? (Tryz.laysTrim_ren.t 116)).map (fun i => (i.zero, i.size)) = some (some (.agg (Array.replicate 256 (.bool false))), 256) := by kernel_rfl
theorem trim_any (s cutset : ByteArray) (w : World) (hs : s.size ≤ 9223372036854775807) (hcs : cutset.size < 4294967281) (hascii : ∀ (j : Nat) b, cutset.data.toList[j]? = some b → b.toNat < 128) :
    Calls Tryz.prog 48 #[.string s, .string cutset] w fun e w' => e = .returned (.string ⟨(trimS s.data.toList cutset.data.toList).toArray⟩) ∧ Below w.heap.size w w' := Any.strings_Trim_laid Tryz.laysTrim info116 s cutset w hs hcs hascii
/-- What strconv.ParseInt(s, 10, 32) answers where s is digits with a sign or none: the number and nil, or some number and an error. -/
theorem parse_ok (s : ByteArray) (hs : s.size ≤ 140737488355328) (v : Int) (h : parseIntB 32 s.data.toList = .ok v) (w : World) :
    Calls Tryz.prog 49 #[.string s, .int .i64 10, .int .i64 32] w fun e w' => e = .returned (.tuple #[.int .i64 v, .nilIface]) ∧ Below w.heap.size w w' :=
  (Tryz.strconv_ParseInt_10_at32_ok s (by omega) v h w).mono fun e w' ⟨he, hw⟩ => ⟨he, by
    rcases hw with rfl | ⟨t, rfl⟩
    · exact Below.refl _ _
    · exact bytesWorld_below w _ t⟩
theorem parse_range (s : ByteArray) (hs : s.size ≤ 140737488355328) (h : parseIntB 32 s.data.toList = .range) (w : World) (hE : Env w) :
    Calls Tryz.prog 49 #[.string s, .int .i64 10, .int .i64 32] w fun e w' => (∃ n tp pp, e = .returned (.tuple #[.int .i64 n, .iface tp pp])) ∧ Below w.heap.size w w' := by
  obtain ⟨tp, p, he⟩ := hE.er
  exact (Tryz.strconv_ParseInt_10_at32_range_var s (by omega) h tp p w he).mono fun e w' ⟨N, h1, _, _, hb⟩ => ⟨⟨_, _, _, h1⟩, hb⟩
theorem Rd.bytesIn {w : World} {p : Option Addr} {n c : Nat} {l : List Nat} (h : Rd w (.slice p n c) n (bcells l)) (hl : l.length = n) : BytesIn w p n (l.map fun x : Nat => (x : Int)) := by
  intro hn
  obtain ⟨b, off, cap, he, hc⟩ := h.cells hn
  simp only [Value.slice.injEq, true_and] at he
  obtain ⟨rfl, _⟩ := he
  refine ⟨b, off, rfl, fun i hi => ?_⟩
  rw [hc i _ (bcells_get l i (by omega))]
  simp [List.getD, List.getElem?_eq_getElem (show i < l.length by omega)]
theorem beqBytes (a b : List Nat) (ha : ∀ x ∈ a, x < 256) (hb : ∀ x ∈ b, x < 256) : (Lib.bytesOf (a.map fun x : Nat => (x : Int)) == Lib.bytesOf (b.map fun x : Nat => (x : Int))) = decide (a = b) := by
  have e : ∀ l : List Nat, Lib.bytesOf (l.map fun x : Nat => (x : Int)) = bytesOf l := by
    intro l
    unfold Lib.bytesOf
    rw [List.map_map]
    rfl
  rw [e, e, Bool.eq_iff_iff, beq_iff_eq, decide_eq_true_eq]
  constructor
  · intro h
    rw [← nats_bytes a ha, ← nats_bytes b hb, h]
  · rintro rfl; rfl
theorem byteseq_any (p1 p2 : Option Addr) (n c m d : Nat) (xs ys : List Nat) (w : World) (hx : xs.length = n) (hy : ys.length = m) (h1 : Rd w (.slice p1 n c) n (bcells xs)) (h2 : Rd w (.slice p2 m d) m (bcells ys)) (hxb : ∀ x ∈ xs, x < 256) (hyb : ∀ x ∈ ys, x < 256) :
    Calls Tryz.prog 57 #[.slice p1 n c, .slice p2 m d] w fun e w' => e = .returned (.bool (decide (xs = ys))) ∧ w' = w := by
  rw [← beqBytes xs ys hxb hyb]
  exact Tryz.bytes_Equal_all p1 p2 n c m d _ _ w (by simpa using hx) (by simpa using hy) (h1.bytesIn hx) (h2.bytesIn hy)
end Go.Proofs.YtpjbcadelmjmfaaGreatDoor
