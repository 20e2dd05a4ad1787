/- Bytes of one line; bytes that are being overwritten. Plain laws. -/
import Derived.Test.YtjmdibgncaljaaaP2
import Derived.Test.YtjmdibgncaljaaaH0
namespace Go.Proofs.Ytjmdibgncaljaaa.Dev
open Go.RowKit

theorem bytes_line (ws : List Nat) (i : Nat) (h : (i + 1) * 8 ≤ ws.length) : ((bytesL ws).drop (64 * i)).take 64 = bytesL ((ws.drop (8 * i)).take 8) := by
  have hl : ((ws.drop (8 * i)).take 8).length = 8 := by rw [List.length_take, List.length_drop]; omega
  apply List.ext_getElem?
  intro q
  by_cases hq : q < 64
  · rw [List.getElem?_take, if_pos hq, List.getElem?_drop, bytesL_get _ _ (by omega), bytesL_get _ _ (by omega)]
    have e1 : (64 * i + q) / 8 = 8 * i + q / 8 := by omega
    have e2 : (64 * i + q) % 8 = q % 8 := by omega
    rw [e1, e2]
    congr 3
    rw [List.getD, List.getD, List.getElem?_take, if_pos (by omega), List.getElem?_drop]
  · rw [List.getElem?_eq_none (by rw [List.length_take]; omega), List.getElem?_eq_none (by rw [bytesL_len]; omega)]
theorem crash_line {R : Dv} {T : Nat} (hok : R.Ok T) (kf : Nat → Nat) (i : Nat) (hi : i < R.lines.length) : ((crashW R kf).drop (8 * i)).take 8 = wordsL (R.line i) (kf i) := by
  have h8 : (wordsL (R.line i) (kf i)).length = 8 := by rw [wordsL_len]; exact (hok.ln i hi).b
  have hcl := crashW_len hok kf
  apply List.ext_getElem?
  intro q
  by_cases hq : q < 8
  · rw [List.getElem?_take, if_pos hq, List.getElem?_drop]
    have := flat_get Ln.base (crashLs R kf) (crashLs_8 hok _) i q _ (crashLs_get R _ _ hi) hq
    exact this
  · rw [List.getElem?_eq_none (by rw [List.length_take]; omega), List.getElem?_eq_none (by omega)]
/-- The first n of b, and of a behind them. -/
def mixB (a b : List Nat) (n : Nat) : List Nat := b.take n ++ a.drop n
theorem mixB_len (a b : List Nat) (n : Nat) (h : a.length = b.length) (hn : n ≤ b.length) : (mixB a b n).length = b.length := by simp [mixB]; omega
theorem mixB_set (a b : List Nat) (n : Nat) (x : Nat) (hl : a.length = b.length) (hx : b[n]? = some x) : (mixB a b n).set n x = mixB a b (n + 1) := by
  have hn : n < b.length := by
    rcases Nat.lt_or_ge n b.length with h | h
    · exact h
    · rw [List.getElem?_eq_none h] at hx; cases hx
  unfold mixB
  apply List.ext_getElem?
  intro i
  by_cases hi : n = i
  · subst hi
    rw [List.getElem?_set_self (by simp; omega), List.getElem?_append_left (by simp; omega), List.getElem?_take, if_pos (by omega), hx]
  · rw [List.getElem?_set_ne hi]
    rcases Nat.lt_or_ge i n with h1 | h1
    · rw [List.getElem?_append_left (by simp; omega), List.getElem?_append_left (by simp; omega), List.getElem?_take, List.getElem?_take, if_pos h1, if_pos (by omega)]
    · rw [List.getElem?_append_right (by simp; omega), List.getElem?_append_right (by simp; omega), List.getElem?_drop, List.getElem?_drop]
      congr 1
      simp only [List.length_take]; omega
theorem setW_at (ws : List Nat) (p : Nat × Nat) (i : Nat) (h : p.1 % 64 / 8 < ws.length) : (setW ws p).getD i 0 = if i = p.1 % 64 / 8 then p.2 else ws.getD i 0 := by
  unfold setW; exact getD_set _ _ _ _ _ h
/-- The bytes before and behind the stored word are as they were. -/
theorem mix_start (ws : List Nat) (p : Nat × Nat) (h : p.1 % 64 / 8 < ws.length) : mixB (bytesL ws) (bytesL (setW ws p)) (8 * (p.1 % 64 / 8)) = bytesL ws := by
  have hl : (setW ws p).length = ws.length := setW_len ws p
  apply List.ext_getElem?
  intro i
  unfold mixB
  rcases Nat.lt_or_ge i (8 * (p.1 % 64 / 8)) with h1 | h1
  · rw [List.getElem?_append_left (by rw [List.length_take, bytesL_len]; omega), List.getElem?_take, if_pos h1, bytesL_get _ _ (by omega), bytesL_get _ _ (by omega), setW_at _ _ _ h, if_neg (by omega)]
  · rw [List.getElem?_append_right (by rw [List.length_take]; omega), List.getElem?_drop]
    congr 1
    rw [List.length_take, bytesL_len]; omega
theorem mix_end (ws : List Nat) (p : Nat × Nat) (h : p.1 % 64 / 8 < ws.length) : mixB (bytesL ws) (bytesL (setW ws p)) (8 * (p.1 % 64 / 8) + 8) = bytesL (setW ws p) := by
  have hl : (setW ws p).length = ws.length := setW_len ws p
  apply List.ext_getElem?
  intro i
  unfold mixB
  rcases Nat.lt_or_ge i (8 * (p.1 % 64 / 8) + 8) with h1 | h1
  · rw [List.getElem?_append_left (by rw [List.length_take, bytesL_len]; omega), List.getElem?_take, if_pos h1]
  · rw [List.getElem?_append_right (by rw [List.length_take]; omega), List.getElem?_drop]
    have e : 8 * (p.1 % 64 / 8) + 8 + (i - (List.take (8 * (p.1 % 64 / 8) + 8) (bytesL (setW ws p))).length) = i := by rw [List.length_take, bytesL_len]; omega
    rw [e]
    by_cases hi : i < ws.length * 8
    · rw [bytesL_get _ _ hi, bytesL_get _ _ (by omega), setW_at _ _ _ h, if_neg (by omega)]
    · rw [List.getElem?_eq_none (by rw [bytesL_len]; omega), List.getElem?_eq_none (by rw [bytesL_len]; omega)]
/-- The byte that the law stores. -/
theorem mix_byte (ws : List Nat) (p : Nat × Nat) (i : Nat) (h : p.1 % 64 / 8 < ws.length) (hi : i < 8) : (bytesL (setW ws p))[8 * (p.1 % 64 / 8) + i]? = some (p.2 / 2 ^ (i * 8) % 256) := by
  have hl : (setW ws p).length = ws.length := setW_len ws p
  rw [bytesL_get _ _ (by omega), setW_at _ _ _ h, if_pos (by omega)]
  congr 4; omega
end Go.Proofs.Ytjmdibgncaljaaa.Dev
