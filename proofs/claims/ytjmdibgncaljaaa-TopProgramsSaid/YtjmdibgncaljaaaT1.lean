/- TopOrder: both counts are one; the images of the combinations are those of the cuts (plain). slices.Contains of strings. -/
import Derived.Test.YtjmdibgncaljaaaC4
import Derived.Test.YtjmdibgncaljaaaO5
import Derived.Test.YtjmdibgncaljaaaK13
import Derived.Test.YtjmdibgncaljaaaK25
namespace Go.Proofs.Ytjmdibgncaljaaa
open Go.RowKit

theorem cntP_prod (G : Gr) : ∀ k, cntP G k = if prodB (bsG G) k ≤ 4611686018427387904 then some (prodB (bsG G) k) else none
  | 0 => by rw [if_pos (by show 1 ≤ _; omega)]; rfl
  | k + 1 => by
    have hb := bsG_pos G k
    have hle : prodB (bsG G) k ≤ prodB (bsG G) (k + 1) := Nat.le_mul_of_pos_right _ hb
    have hP : prodB (bsG G) (k + 1) = prodB (bsG G) k * bsG G k := rfl
    have hbe : bsG G k = G.ct.getD k 0 - G.md.getD k 0 + 1 := rfl
    unfold cntP
    rw [cntP_prod G k]
    by_cases h : prodB (bsG G) k ≤ 4611686018427387904
    · rw [if_pos h]
      simp only [← hbe, ← hP]
      by_cases h2 : prodB (bsG G) (k + 1) ≤ 4611686018427387904
      · rw [if_pos h2, if_neg (by omega)]
      · rw [if_neg h2, if_pos (by omega)]
    · rw [if_neg h, if_neg (by omega)]
theorem prod_to {R : Dev.Dv} {S : Rn} (h : Pair R S) : ∀ k, k ≤ S.G.n → Dev.prodL R (Dev.dirtyTo R k) = prodB (bsG S.G) k
  | 0, _ => rfl
  | k + 1, hk => by
    have ih := prod_to h k (by omega)
    have hb : bsG S.G k = (R.line k).hist.length + 1 := by rw [h.hlen (by omega)]; rfl
    show _ = prodB (bsG S.G) k * bsG S.G k
    rw [Dev.dirtyTo_succ, hb]
    by_cases hd : 0 < (R.line k).hist.length
    · rw [if_pos hd, Dev.prodL_snoc, ih]; rfl
    · rw [if_neg hd, ih, show (R.line k).hist.length = 0 by omega, Nat.mul_one]
theorem prod_same {R : Dev.Dv} {S : Rn} (h : Pair R S) : Dev.prodL R (Dev.dirtyL R) = prodB (bsG S.G) S.G.n := by
  have := prod_to h S.G.n (Nat.le_refl _)
  unfold Dev.dirtyL; rw [h.n]; exact this
theorem prodB_ge {b : Nat → Nat} (hb : ∀ x, 1 ≤ b x) : ∀ m x, x < m → b x ≤ prodB b m
  | 0, x, h => absurd h (Nat.not_lt_zero _)
  | m + 1, x, h => by
    show b x ≤ prodB b m * b m
    have h1 := prodB_pos hb m
    have h2 := hb m
    by_cases e : x = m
    · subst e; exact Nat.le_mul_of_pos_left _ h1
    · exact Nat.le_trans (prodB_ge hb m x (by omega)) (Nat.le_mul_of_pos_right _ h2)
theorem kOf_le (R : Dev.Dv) (n l : Nat) (hl : l < R.lines.length) : Dev.kOf R (Dev.digR R (Dev.dirtyL R) n) l ≤ (R.line l).hist.length := by
  unfold Dev.kOf
  split
  · rename_i h
    split
    · refine Dev.digR_le R _ n _ l ?_
      have hs := Dev.dirtyTo_succ R l
      rw [if_pos h] at hs
      obtain ⟨t, ht⟩ := Dev.dirtyTo_mono (R := R) (show l + 1 ≤ R.lines.length by omega)
      unfold Dev.dirtyL
      rw [ht, hs, List.append_assoc, List.getElem?_append_right (Nat.le_refl _), Nat.sub_self]; rfl
    · exact Nat.zero_le _
  · exact Nat.zero_le _
/-- The image of a combination is that of a cut. -/
theorem at_cut {R : Dev.Dv} {S : Rn} (h : Pair R S) (ok : S.G.Ok) (cg : S.G.Count) (x : Nat) : ∃ N, N < prodB (bsG S.G) S.G.n ∧ imgP S.G (natsI (cutL S.G (takenN S.G N))) = Dev.atB R x := by
  obtain ⟨N, h1, h2⟩ := crash_cut h ok cg (Dev.kOf R (Dev.digR R (Dev.dirtyL R) x)) (fun l hl => kOf_le R x l (by rw [h.n]; exact hl))
  exact ⟨N, h1, h2⟩
/-- The words of a cut's image. -/
def cutW (R : Dev.Dv) (G : Gr) (N : Nat) : List Nat := Dev.crashW R (dig (bsG G) G.n N)
theorem cut_words {R : Dev.Dv} {S : Rn} {T : Nat} (h : Pair R S) (hok : R.Ok T) (ok : S.G.Ok) (cg : S.G.Count) (N : Nat) : imgP S.G (natsI (cutL S.G (takenN S.G N))) = Dev.bytesL (cutW R S.G N) ∧ (cutW R S.G N).length = S.G.n * 8 ∧
    (∀ x ∈ cutW R S.G N, x < 18446744073709551616) ∧ Dev.possB R (cutW R S.G N) = true := by
  refine ⟨cut_crash h ok cg N, by unfold cutW; rw [Dev.crashW_len hok, h.n], Dev.crashW_lt hok _, Dev.poss_crash hok _ (fun l hl => ?_)⟩
  have h1 := dig_lt (bsG_pos S.G) S.G.n N l
  rw [h.hlen (by rw [← h.n]; exact hl)]
  unfold bsG at h1 ⊢; omega

/-! ### strings -/
def strV (l : List ByteArray) : List Value := l.map .string
theorem strV_get (l : List ByteArray) (i : Nat) (h : i < l.length) : (strV l)[i]? = some (.string (l.getD i ⟨#[]⟩)) := by
  unfold strV; rw [List.getElem?_map, List.getD, List.getElem?_eq_getElem h]; rfl
theorem str_beq (a b : ByteArray) : (a.toList == b.toList) = decide (a = b) := by
  by_cases h : a = b
  · subst h; simp
  · have : ¬ a.toList = b.toList := fun e => h (by
      rw [ByteArray.toList_eq, ByteArray.toList_eq] at e
      exact ByteArray.ext (Array.toList_inj.1 e))
    rw [decide_eq_false h]; simpa using this
set_option maxHeartbeats 2000000 in
theorem sindex_yes (a : Option Addr) (c : Nat) (l : List ByteArray) (s : ByteArray) (w : World) (hr : Rd w (.slice a l.length c) l.length (strV l)) (hs : s ∈ l) (hl : l.length ≤ 1000000) :
    Calls Try.prog 61 #[.slice a l.length c, .string s] w fun e w' => (∃ r : Int, e = .returned (.int .i64 r) ∧ 0 ≤ r) ∧ w = w' := by
  obtain ⟨a', c', e, hc⟩ := hr
  simp only [Value.slice.injEq, true_and] at e
  obtain ⟨rfl, rfl⟩ := e
  obtain ⟨i, hi, hx⟩ := List.getElem_of_mem hs
  rcases hc with ⟨h0, _⟩ | ⟨b, o, rfl, hc⟩
  · omega
  go_enter Try.func61, Try.ntmps61
  go_wp2_with fail
  go_loopw [8] (fun iv wr => ∃ k : Nat, k ≤ i ∧ iv = .int .i64 (k : Int) ∧ w = wr) (fun iv _ => i + 1 - (intOf iv).toNat)
  case atStart => exact ⟨0, Nat.zero_le _, rfl, rfl⟩
  case round =>
    obtain ⟨k, hk, rfl, rfl⟩ := hrel
    have hkI : (k : Int) < (l.length : Int) := by omega
    have hck := hc k _ (strV_get l k (by omega))
    have hb := str_beq s (l.getD k ⟨#[]⟩)
    generalize hq : l.getD k ⟨#[]⟩ = q at *
    by_cases he : s = q
    · rw [decide_eq_true he] at hb
      replace hq := Lib.hid hq
      clear hx
      go_wp2_with fail
      go_ret
      exact ⟨⟨_, rfl, by omega⟩, rfl⟩
    · rw [decide_eq_false he] at hb
      have hki : k < i := by
        rcases Nat.lt_or_ge k i with h | h
        · exact h
        · obtain rfl : k = i := by omega
          exact absurd (by rw [← hq, ← hx, List.getD, List.getElem?_eq_getElem hi]; rfl) he
      replace hq := Lib.hid hq
      clear hx
      go_wp2_with fail
      go_roundw
      case rel => exact ⟨k + 1, by omega, by go_num, trivial⟩
      case measure => simp [intOf]; omega
theorem contains_yes (a : Option Addr) (c : Nat) (l : List ByteArray) (s : ByteArray) (w : World) (hr : Rd w (.slice a l.length c) l.length (strV l)) (hs : s ∈ l) (hl : l.length ≤ 1000000) :
    Calls Try.prog 18 #[.slice a l.length c, .string s] w fun e w' => e = .returned (.bool true) ∧ w = w' := by
  have hi := Lib.hid (sindex_yes a c l s w hr hs hl)
  go_enter Try.func18, Try.ntmps18
  go_wp2_with fail
  refine hi.out.mono ?_
  rintro e w' ⟨⟨r, rfl, hr0⟩, rfl⟩
  have hd : decide ((0 : Int) ≤ r) = true := decide_eq_true hr0
  go_wp2_with fail
  go_ret
  exact ⟨rfl, rfl⟩
end Go.Proofs.Ytjmdibgncaljaaa
