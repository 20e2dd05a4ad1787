/- Words that are being filled byte by byte; the bytes of an argument as a list of words. No program in sight. -/
import Derived.Test.YtjmdibgncaljaaaD16
import Derived.Lib.EndianBits
import Derived.Lib.VarintBits
namespace Go.Proofs.Ytjmdibgncaljaaa.Dev
open Go.RowKit

/-- The words when the first i bytes have been laid. -/
def partW (x m : Nat) : Nat := x % 256 ^ (min 8 m)
def partL (ws : List Nat) (i : Nat) : List Nat := (List.range ws.length).map fun j => partW (ws.getD j 0) (i - 8 * j)
theorem partL_len (ws : List Nat) (i : Nat) : (partL ws i).length = ws.length := by simp [partL]
theorem partL_get (ws : List Nat) (i j : Nat) (h : j < ws.length) : (partL ws i)[j]? = some (partW (ws.getD j 0) (i - 8 * j)) := by
  unfold partL; rw [List.getElem?_map, List.getElem?_range h]; rfl
theorem partL_zero (ws : List Nat) : partL ws 0 = List.replicate ws.length 0 := by
  apply List.ext_getElem?
  intro j
  by_cases h : j < ws.length
  · rw [partL_get ws 0 j h, List.getElem?_replicate, if_pos h]
    simp [partW, Nat.mod_one]
  · rw [List.getElem?_eq_none (by rw [partL_len]; omega), List.getElem?_eq_none (by simp; omega)]
theorem partL_all (ws : List Nat) (hw : ∀ x ∈ ws, x < 18446744073709551616) : partL ws (ws.length * 8) = ws := by
  apply List.ext_getElem?
  intro j
  by_cases h : j < ws.length
  · rw [partL_get ws _ j h, get_of_lt 0 h]
    have h1 : min 8 (ws.length * 8 - 8 * j) = 8 := by omega
    unfold partW
    rw [h1, Nat.mod_eq_of_lt (hw _ (mem_getD 0 h))]
  · rw [List.getElem?_eq_none (by rw [partL_len]; omega), List.getElem?_eq_none (by omega)]
theorem partW_lt (x m : Nat) : partW x m < 18446744073709551616 := by
  unfold partW
  have h1 : x % 256 ^ min 8 m < 256 ^ min 8 m := Nat.mod_lt _ (Nat.pow_pos (by omega))
  have h2 : 256 ^ min 8 m ≤ 256 ^ 8 := Nat.pow_le_pow_right (by omega) (by omega)
  omega
/-- The byte that is laid next. -/
def byteAt (ws : List Nat) (i : Nat) : Nat := ws.getD (i / 8) 0 / 2 ^ (i % 8 * 8) % 256
theorem pow8 (k : Nat) : 2 ^ (k * 8) = 256 ^ k := by rw [Nat.mul_comm, Nat.pow_mul]
theorem partW_succ (x m : Nat) (h : m < 8) : partW x (m + 1) = partW x m + x / 2 ^ (m * 8) % 256 * 2 ^ (m * 8) := by
  unfold partW
  rw [Nat.min_eq_right (by omega), Nat.min_eq_right (by omega), pow8, Nat.pow_succ, Nat.mod_mul, Nat.mul_comm (x / 256 ^ m % 256)]
theorem partL_succ (ws : List Nat) (i : Nat) (h : i < ws.length * 8) : partL ws (i + 1) = (partL ws i).set (i / 8) ((partL ws i).getD (i / 8) 0 + byteAt ws i * 2 ^ (i % 8 * 8)) := by
  have hj : i / 8 < ws.length := by omega
  apply List.ext_getElem?
  intro j
  by_cases hjl : j < ws.length
  · rw [partL_get ws _ j hjl]
    by_cases he : j = i / 8
    · subst he
      rw [List.getElem?_set_self (by rw [partL_len]; exact hj), getD_of 0 (partL_get ws i _ hj)]
      have e1 : i + 1 - 8 * (i / 8) = i % 8 + 1 := by omega
      have e2 : i - 8 * (i / 8) = i % 8 := by omega
      rw [e1, e2, partW_succ _ _ (by omega)]
      rfl
    · rw [List.getElem?_set_ne (Ne.symm he), partL_get ws _ j hjl]
      unfold partW
      have e1 : min 8 (i + 1 - 8 * j) = min 8 (i - 8 * j) := by omega
      rw [e1]
  · rw [List.getElem?_eq_none (by rw [partL_len]; omega), List.getElem?_eq_none (by rw [List.length_set, partL_len]; omega)]
theorem partL_at (ws : List Nat) (i : Nat) (h : i < ws.length * 8) : (partL ws i).getD (i / 8) 0 < 256 ^ (i % 8) := by
  rw [getD_of 0 (partL_get ws i _ (by omega))]
  have e2 : min 8 (i - 8 * (i / 8)) = i % 8 := by omega
  unfold partW
  rw [e2]
  exact Nat.mod_lt _ (Nat.pow_pos (by omega))
theorem byteAt_lt (ws : List Nat) (i : Nat) : byteAt ws i < 256 := Nat.mod_lt _ (by omega)
theorem partL_lt (ws : List Nat) (i : Nat) : ∀ x ∈ partL ws i, x < 18446744073709551616 := by
  intro x hx
  simp only [partL, List.mem_map] at hx
  obtain ⟨j, _, rfl⟩ := hx
  exact partW_lt _ _
open Go.Lib in
theorem or_bits (y b k : Nat) (hy : y < 256 ^ k) (hb : b < 256) (hk : k < 8) : bits .or .u64 (y : Int) ((b : Int) * 2 ^ (k * 8)) = (y : Int) + (b : Int) * 2 ^ (k * 8) := by
  match k, hk with
  | 0, _ => rw [show (2 : Int) ^ (0 * 8) = 1 from rfl]; simp only [Nat.reducePow] at hy; exact u64_orv0 _ _ (by omega) (by omega) (by omega) (by omega) (by omega)
  | 1, _ => rw [show (2 : Int) ^ (1 * 8) = 256 from rfl]; simp only [Nat.reducePow] at hy; exact u64_or8 _ _ (by omega) (by omega) (by omega) (by omega) (by omega)
  | 2, _ => rw [show (2 : Int) ^ (2 * 8) = 65536 from rfl]; simp only [Nat.reducePow] at hy; exact u64_or16 _ _ (by omega) (by omega) (by omega) (by omega) (by omega)
  | 3, _ => rw [show (2 : Int) ^ (3 * 8) = 16777216 from rfl]; simp only [Nat.reducePow] at hy; exact u64_or24 _ _ (by omega) (by omega) (by omega) (by omega) (by omega)
  | 4, _ => rw [show (2 : Int) ^ (4 * 8) = 4294967296 from rfl]; simp only [Nat.reducePow] at hy; exact u64_or32 _ _ (by omega) (by omega) (by omega) (by omega) (by omega)
  | 5, _ => rw [show (2 : Int) ^ (5 * 8) = 1099511627776 from rfl]; simp only [Nat.reducePow] at hy; exact u64_or40 _ _ (by omega) (by omega) (by omega) (by omega) (by omega)
  | 6, _ => rw [show (2 : Int) ^ (6 * 8) = 281474976710656 from rfl]; simp only [Nat.reducePow] at hy; exact u64_or48 _ _ (by omega) (by omega) (by omega) (by omega) (by omega)
  | 7, _ => rw [show (2 : Int) ^ (7 * 8) = 72057594037927936 from rfl]; simp only [Nat.reducePow] at hy; exact u64_or56 _ _ (by omega) (by omega) (by omega) (by omega) (by omega)
theorem shl_id (b k : Nat) (hb : b < 256) (hk : k < 8) : IntKind.u64.wrap ((b : Int) * 2 ^ (k * 8)) = (b : Int) * 2 ^ (k * 8) := by
  have h1 : 256 ^ k ≤ 256 ^ 7 := Nat.pow_le_pow_right (by omega) (by omega)
  have h2 : b * 256 ^ k ≤ 255 * 256 ^ 7 := Nat.mul_le_mul (by omega) h1
  have h3 : (b : Int) * 2 ^ (k * 8) = ((b * 256 ^ k : Nat) : Int) := by rw [← pow8]; simp
  rw [h3]
  exact u64_wrap_id _ (by omega) (by omega)
theorem or_wrap (y b k : Nat) (hy : y < 256 ^ k) (hb : b < 256) (hk : k < 8) : bits .or .u64 (y : Int) (IntKind.u64.wrap ((b : Int) * 2 ^ (k * 8))) = ((y + b * 2 ^ (k * 8) : Nat) : Int) := by
  rw [shl_id b k hb hk, or_bits y b k hy hb hk]
  simp
/-- The words of a list of bytes. -/
def ofB (l : List Nat) : Nat := l.foldr (fun x a => x + 256 * a) 0
theorem ofB_byte : ∀ (l : List Nat), (∀ x ∈ l, x < 256) → ∀ k, ofB l / 256 ^ k % 256 = l.getD k 0
  | [], _, k => by simp [ofB]
  | x :: l, h, 0 => by
    have := h x (List.mem_cons_self ..)
    show (x + 256 * ofB l) / 256 ^ 0 % 256 = x
    rw [Nat.pow_zero]; omega
  | x :: l, h, k + 1 => by
    have hx := h x (List.mem_cons_self ..)
    have ih := ofB_byte l (fun y hy => h y (List.mem_cons_of_mem _ hy)) k
    show (x + 256 * ofB l) / 256 ^ (k + 1) % 256 = l.getD k 0
    rw [← ih, Nat.pow_succ, Nat.mul_comm (256 ^ k), ← Nat.div_div_eq_div_mul]
    congr 2; omega
theorem ofB_lt : ∀ (l : List Nat), (∀ x ∈ l, x < 256) → ofB l < 256 ^ l.length
  | [], _ => by simp [ofB]
  | x :: l, h => by
    have hx := h x (List.mem_cons_self ..)
    have ih := ofB_lt l (fun y hy => h y (List.mem_cons_of_mem _ hy))
    show x + 256 * ofB l < 256 ^ (l.length + 1)
    rw [Nat.pow_succ]; omega
def wordAt (p : List Nat) (j : Nat) : Nat := ofB ((List.range 8).map fun k => p.getD (8 * j + k) 0)
def wordsOf (p : List Nat) : List Nat := (List.range (p.length / 8)).map (wordAt p)
theorem wordsOf_len (p : List Nat) : (wordsOf p).length = p.length / 8 := by simp [wordsOf]
theorem byte_b (p : List Nat) (hp : ∀ x ∈ p, x < 256) (i : Nat) : p.getD i 0 < 256 := by
  by_cases h : i < p.length
  · exact hp _ (mem_getD 0 h)
  · rw [List.getD, List.getElem?_eq_none (by omega)]; exact (by decide)
theorem wordAt_b (p : List Nat) (hp : ∀ x ∈ p, x < 256) (j : Nat) : ∀ x ∈ (List.range 8).map (fun k => p.getD (8 * j + k) 0), x < 256 := by
  intro x hx
  rw [List.mem_map] at hx
  obtain ⟨k, _, rfl⟩ := hx
  exact byte_b p hp _
theorem wordAt_byte (p : List Nat) (hp : ∀ x ∈ p, x < 256) (j k : Nat) (hk : k < 8) : wordAt p j / 2 ^ (k * 8) % 256 = p.getD (8 * j + k) 0 := by
  unfold wordAt
  rw [pow8, ofB_byte _ (wordAt_b p hp j)]
  exact getD_of 0 (by rw [List.getElem?_map, List.getElem?_range hk]; rfl)
theorem wordAt_lt (p : List Nat) (hp : ∀ x ∈ p, x < 256) (j : Nat) : wordAt p j < 18446744073709551616 := by
  have := ofB_lt _ (wordAt_b p hp j)
  rw [List.length_map, List.length_range] at this
  exact this
theorem wordsOf_lt (p : List Nat) (hp : ∀ x ∈ p, x < 256) : ∀ x ∈ wordsOf p, x < 18446744073709551616 := by
  intro x hx
  simp only [wordsOf, List.mem_map] at hx
  obtain ⟨j, _, rfl⟩ := hx
  exact wordAt_lt p hp j
theorem bytes_words (p : List Nat) (hp : ∀ x ∈ p, x < 256) (h8 : p.length % 8 = 0) : bytesL (wordsOf p) = p := by
  apply List.ext_getElem?
  intro i
  by_cases h : i < p.length
  · rw [bytesL_get _ i (by rw [wordsOf_len]; omega), get_of_lt 0 h]
    have : (wordsOf p).getD (i / 8) 0 = wordAt p (i / 8) := getD_of 0 (by unfold wordsOf; rw [List.getElem?_map, List.getElem?_range (by omega)]; rfl)
    rw [this, wordAt_byte p hp _ _ (by omega)]
    congr 2; omega
  · rw [List.getElem?_eq_none (by rw [bytesL_len, wordsOf_len]; omega), List.getElem?_eq_none (by omega)]
end Go.Proofs.Ytjmdibgncaljaaa.Dev
