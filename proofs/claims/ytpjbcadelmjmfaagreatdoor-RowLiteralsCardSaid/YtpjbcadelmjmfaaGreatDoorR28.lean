/- Walks: the reference's Number and Text. -/
import Derived.Test.YtpjbcadelmjmfaaGreatDoorR27
import Derived.Lib.ItoaLen
set_option linter.unusedVariables false
namespace Go.Proofs.YtpjbcadelmjmfaaGreatDoor
open Go.RowKit Go.Lib

def NumR (n m : Nat) (l : List UInt8) : Prop := (l = [] ∧ m = n) ∨ (l ≠ [] ∧ 0 < m ∧ decDigits n = decDigits m ++ l) ∨ (l ≠ [] ∧ m = 0 ∧ decDigits n = l)
theorem NumR.step {n m : Nat} {l : List UInt8} (h : NumR n m l) (hc : 0 < m ∨ l = []) : NumR n (m / 10) (UInt8.ofNat (48 + m % 10) :: l) := by
  have key : decDigits n = decDigits m ++ l := by
    rcases h with ⟨rfl, rfl⟩ | ⟨_, _, h⟩ | ⟨h1, h2, _⟩
    · simp
    · exact h
    · rcases hc with h | h
      · omega
      · exact absurd h h1
  rw [decDigits.eq_1 m] at key
  by_cases h10 : m < 10
  · rw [dif_pos h10] at key
    refine .inr (.inr ⟨by simp, by omega, ?_⟩)
    rw [key, Nat.mod_eq_of_lt h10]; rfl
  · rw [dif_neg h10] at key
    refine .inr (.inl ⟨by simp, by omega, ?_⟩)
    rw [key]; simp
theorem NumR.done {n m : Nat} {l : List UInt8} (h : NumR n m l) (h1 : ¬ 0 < m) (h2 : l ≠ []) : decDigits n = l := by
  rcases h with ⟨rfl, _⟩ | ⟨_, h, _⟩ | ⟨_, _, h⟩
  · exact absurd rfl h2
  · exact absurd h h1
  · exact h
theorem NumR.len {n m : Nat} {l : List UInt8} (h : NumR n m l) (hn : n ≤ 2147483648) : l.length ≤ 20 ∧ m ≤ 2147483648 := by
  have hd : (decDigits n).length ≤ 20 := by
    rw [decDigits_length]
    exact nDigits_le20 n (by omega)
  rcases h with ⟨rfl, rfl⟩ | ⟨_, h, hk⟩ | ⟨_, h, hk⟩
  · exact ⟨by simp, by omega⟩
  · rw [hk, List.length_append] at hd
    have hv : valFrom 0 (decDigits m ++ l) = n := by rw [← hk]; exact (dec_dig n).2.1
    have hge : ∀ (l : List UInt8) (a b : List UInt8), a = b → valFrom 0 a = valFrom 0 b := fun _ _ _ h => by rw [h]
    have happ : ∀ (a b : List UInt8) (x : Nat), valFrom x (a ++ b) = valFrom (valFrom x a) b := by
      intro a
      induction a with
      | nil => intro b x; rfl
      | cons c r ih => intro b x; exact ih b _
    rw [happ, (dec_dig m).2.1] at hv
    have := val_ge l m
    exact ⟨by omega, by omega⟩
  · rw [← hk]; exact ⟨hd, by omega⟩
def numM (t s : Value) : Nat := (RowKit.intOf t).toNat * 2 + (match s with | .string b => if b.size = 0 then 1 else 0 | _ => 0)
theorem numM_of (m : Nat) (l : List UInt8) : numM (.int .i64 (m : Int)) (.string (ba l)) = m * 2 + if l = [] then 1 else 0 := by
  unfold numM
  have e : (ba l).size = l.length := by rw [ba, mk_size]
  simp [RowKit.intOf, e]
set_option maxHeartbeats 4000000 in
set_option maxRecDepth 100000 in
theorem rnum_pos (n : Nat) (hn : n ≤ 2147483648) (w : World) :
    Calls Tryz.prog 45 #[.int .i64 (n : Int)] w (RPost w (.string (ba (decDigits n)))) := by
  have hnI : ¬ (n : Int) < 0 := by omega
  go_enter Tryz.func45, Tryz.ntmps45
  go_wp2_with fail
  go_loopw [0, 3] (fun t s wx => ∃ (m : Nat) (l : List UInt8), t = .int .i64 m ∧ s = .string (ba l) ∧ NumR n m l ∧ Below w.heap.size w wx) (fun t s _ => numM t s)
  case atStart => exact ⟨n, [], rfl, rfl, .inl ⟨rfl, rfl⟩, Below.refl _ _⟩
  case round =>
    obtain ⟨m, l, rfl, rfl, hR, hB⟩ := hrel
    obtain ⟨hl, hm⟩ := hR.len hn
    by_cases hgo : 0 < m ∨ l = []
    · have hst := hR.step hgo
      have hs1 : ((ba l).toList == ([] : List UInt8)) = decide (l = []) := by rw [beqL]; rfl
      have hd : 48 + m % 10 < 256 := by omega
      obtain ⟨d, hde⟩ : ∃ d, d = 48 + m % 10 := ⟨_, rfl⟩
      have hdI : (48 : Int) + (m : Int) % 10 = (d : Int) := by omega
      have hcv := fun wx (hx : Rd wx (.slice (some ⟨wr.heap.size, 0, none⟩) [d].length 1) [d].length (bcells [d])) => conv_rd hx (by intro x hx; simp at hx; omega) (by simp)
      have hcv2 := hcv (wr.alloc (.cells #[.int .u8 (d : Int)] 5)) (Rd.of_has (Has.new wr [.int .u8 (d : Int)] 5) 1 1)
      have hcv3 : (convert 34 9 (.slice (some ⟨wr.heap.size, 0, none⟩) 1 1)).run Tryz.prog (wr.alloc (.cells #[.int .u8 (d : Int)] 5)) = .ok (.string (strOfNats [d])) (wr.alloc (.cells #[.int .u8 (d : Int)] 5)) := hcv2
      have hB2 : Below w.heap.size w (wr.alloc (.cells #[.int .u8 (d : Int)] 5)) := hB.alloc hB.size _
      rw [← hde] at hst
      have hcat : strOfNats [d] ++ ba l = ba (UInt8.ofNat d :: l) := by
        show ba (bytesOf [d]) ++ ba l = _
        rw [ba_app]; rfl
      have z1 : ¬ 9223372036854775807 < (strOfNats [d]).size + (ba l).size := by
        have e1 : (strOfNats [d]).size = 1 := rfl
        have e2 : (ba l).size = l.length := by rw [ba, mk_size]
        omega
      replace hB2 := Lib.hid hB2
      replace hst := Lib.hid hst
      replace hcat := Lib.hid hcat
      replace hde := Lib.hid hde
      generalize strOfNats [d] = sd at *
      clear hcv hcv2 hR hB
      by_cases hm0 : 0 < m
      · have hmI : (m : Int) > 0 := by omega
        clear hgo
        go_wp2_with fail
        go_round
        case rel => exact ⟨m / 10, _, by go_num, by rw [hcat.out], hst.out, hB2.out⟩
        case measure =>
          rw [hcat.out]
          have h1 := numM_of m l
          have h2 := numM_of (m / 10) (UInt8.ofNat d :: l)
          have e3 : ((m / 10 : Nat) : Int) = (m : Int) / 10 := by omega
          rw [e3, if_neg (by simp)] at h2
          rw [h1, h2]
          split <;> omega
      · have hmI : ¬ (m : Int) > 0 := by omega
        have hle : l = [] := by
          rcases hgo with h | h
          · omega
          · exact h
        subst hle
        clear hgo
        go_wp2_with fail
        go_round
        case rel => exact ⟨m / 10, _, by go_num, by rw [hcat.out], hst.out, hB2.out⟩
        case measure =>
          rw [hcat.out]
          have h1 := numM_of m []
          have h2 := numM_of (m / 10) [UInt8.ofNat d]
          have e3 : ((m / 10 : Nat) : Int) = (m : Int) / 10 := by omega
          rw [e3, if_neg (by simp)] at h2
          rw [if_pos rfl] at h1
          rw [h1, h2]
          omega
    · have h1 : ¬ 0 < m := fun h => hgo (.inl h)
      have h2 : l ≠ [] := fun h => hgo (.inr h)
      have hmI : ¬ (m : Int) > 0 := by omega
      have hs1 : ((ba l).toList == ([] : List UInt8)) = false := by rw [beqL]; exact decide_eq_false h2
      have hd := hR.done h1 h2
      replace hd := Lib.hid hd
      replace h2 := Lib.hid h2
      replace hB := Lib.hid hB
      clear hgo hR h1
      go_wp2_with fail
      go_ret
      exact ⟨by rw [hd.out]; rfl, hB.out⟩
set_option maxHeartbeats 4000000 in
theorem rnum_any (n : Int) (h1 : -2147483648 ≤ n) (h2 : n < 2147483648) (w : World) :
    Calls Tryz.prog 45 #[.int .i64 n] w (RPost w (.string (ba (itoa n)))) := by
  by_cases hn : n < 0
  · have hp := rnum_pos n.natAbs (by omega) w
    have he : ((n.natAbs : Nat) : Int) = -n := by omega
    rw [he] at hp
    have hi : itoa n = 45 :: decDigits n.natAbs := by unfold itoa; rw [if_pos hn]
    have hl : (decDigits n.natAbs).length ≤ 20 := by
      rw [decDigits_length]
      exact nDigits_le20 _ (by omega)
    rw [hi]
    generalize decDigits n.natAbs = dl at *
    have z1 : (ba dl).size ≤ 20 := by rw [ba, mk_size]; exact hl
    have z2 : ¬ 9223372036854775807 < (⟨#[45]⟩ : ByteArray).size + (ba dl).size := by
      have e1 : (⟨#[45]⟩ : ByteArray).size = 1 := rfl
      omega
    have hcat : (⟨#[45]⟩ : ByteArray) ++ ba dl = ba (45 :: dl) := by
      show ba [45] ++ ba dl = _
      rw [ba_app]; rfl
    rw [← hcat]
    replace hp := Lib.hid hp
    replace hcat := Lib.hid hcat
    replace hi := Lib.hid hi
    replace he := Lib.hid he
    go_enter Tryz.func45, Tryz.ntmps45
    go_wp2_with fail
    refine hp.out.mono ?_
    rintro e w1 ⟨rfl, hb1⟩
    replace hb1 := Lib.hid hb1
    go_wp2_with fail
    go_ret
    exact ⟨rfl, hb1.out⟩
  · have hp := rnum_pos n.toNat (by omega) w
    have he : ((n.toNat : Nat) : Int) = n := by omega
    rw [he] at hp
    have hi : itoa n = decDigits n.toNat := by unfold itoa; rw [if_neg hn]
    rw [hi]
    exact hp
def dblB (s : ByteArray) (k : Nat) : List UInt8 := 39 :: dbl (s.data.toList.take k)
theorem dbl_app : ∀ a b : List UInt8, dbl (a ++ b) = dbl a ++ dbl b
  | [], b => rfl
  | c :: a, b => by
    have ih := dbl_app a b
    rw [List.cons_append]
    simp only [dbl]
    split <;> rw [ih] <;> rfl
end Go.Proofs.YtpjbcadelmjmfaaGreatDoor
