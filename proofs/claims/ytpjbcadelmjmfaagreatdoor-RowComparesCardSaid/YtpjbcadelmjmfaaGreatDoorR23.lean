/- Walks: Hash, the reference's rank and Compare. -/
import Derived.Test.YtpjbcadelmjmfaaGreatDoorR19
import Derived.Test.YtpjbcadelmjmfaaGreatDoorR6
namespace Go.Proofs.YtpjbcadelmjmfaaGreatDoor
open Go.RowKit Go.Lib

def hstep (h : Int) (c : Nat) : Int := bits .xor .u64 h (c : Int) * 1099511628211 % 18446744073709551616
def hashP (l : List Nat) : Int := l.foldl hstep 14695981039346656037
theorem hash_take (l : List Nat) (k : Nat) (h : k < l.length) : hashP (l.take (k + 1)) = hstep (hashP (l.take k)) (l.getD k 0) := by
  rw [take_getD l k 0 h]
  unfold hashP
  rw [List.foldl_append]; rfl
theorem hash_bd (l : List Nat) (k : Nat) : 0 ≤ hashP (l.take k) ∧ hashP (l.take k) < 18446744073709551616 := by
  induction k with
  | zero =>
    have e : hashP (l.take 0) = 14695981039346656037 := by simp [hashP]
    rw [e]; exact ⟨by decide, by decide⟩
  | succ k ih =>
    by_cases h : k < l.length
    · rw [hash_take l k h]
      unfold hstep
      generalize bits .xor .u64 (hashP (l.take k)) ((l.getD k 0 : Nat) : Int) = x
      omega
    · have : l.take (k + 1) = l.take k := by rw [List.take_of_length_le (by omega), List.take_of_length_le (by omega)]
      rw [this]; exact ih
set_option maxHeartbeats 1000000 in
theorem hash_any (l : List Nat) (hl : l.length ≤ 1000000) (hb : ∀ x ∈ l, x < 256) (a : Option Addr) (c : Nat) (w : World) (hr : Rd w (.slice a l.length c) l.length (bcells l)) :
    Calls Tryz.prog 59 #[.slice a l.length c] w (fun e w' => e = .returned (.int .u64 (hashP l)) ∧ w = w') := by
  go_enter Tryz.func59, Tryz.ntmps59
  go_wp2_with fail
  go_loop [3, 8] (fun h i => ∃ k : Nat, k ≤ l.length ∧ i = .int .i64 k ∧ h = .int .u64 (hashP (l.take k))) (fun _ i => l.length - (RowKit.intOf i).toNat)
  case atStart => exact ⟨0, by omega, rfl, rfl⟩
  case round =>
    obtain ⟨k, hk, rfl, rfl⟩ := hrel
    by_cases hlt : k < l.length
    · have hlI : (k : Int) < l.length := by omega
      obtain ⟨bl, ol, cl, ea, fa⟩ := hr.cells (by omega)
      simp only [Value.slice.injEq, true_and] at ea
      obtain ⟨rfl, hcap⟩ := ea
      replace hcap := Lib.hid hcap
      have c0 : w.cell? ⟨bl, ol + k, none⟩ = _ := fa k _ (bcells_get l k hlt)
      have hx := hb _ (List.mem_of_getElem? (get_lt 0 hlt))
      have hh := hash_take l k hlt
      obtain ⟨h1, h2⟩ := hash_bd l k
      generalize l.getD k 0 = x at *
      generalize hashP (l.take k) = h at *
      unfold hstep at hh
      replace hh := Lib.hid hh
      clear fa
      go_wp2_with fail
      go_round
      case rel => exact ⟨k + 1, by omega, by go_num, by rw [hh.out, IntKind.wrap_u64]⟩
      case measure => simp [RowKit.intOf]; omega
    · have hkI : ¬ (k : Int) < l.length := by omega
      have hke : hashP (l.take k) = hashP l := by rw [List.take_of_length_le (by omega)]
      replace hke := Lib.hid hke
      clear hr
      go_wp2_with fail
      go_ret
      exact ⟨ret1_eq (congrArg (Value.int .u64) hke.out), rfl⟩
theorem rank_any (ta : Nat) (na : Bool) (ia : Int) (xa : ByteArray) (ba : Bool) (w : World) : Calls Tryz.prog 58 #[.agg #[.int .i64 (ta : Int), .bool na, .int .i64 ia, .string xa, .bool ba]] w (RPost w (.int .i64 (rankV ⟨ta, na, ia, xa, ba⟩))) := by
  have hN := Has.new w [.int .i64 (ta : Int), .bool na, .int .i64 ia, .string xa, .bool ba] 54
  have n1 := hN.cell (o := 1) rfl
  have n2 := hN.cell (o := 2) rfl
  have n4 := hN.cell (o := 4) rfl
  have hB : Below w.heap.size w (w.alloc (.cells #[.int .i64 (ta : Int), .bool na, .int .i64 ia, .string xa, .bool ba] 54)) := (Below.refl _ _).alloc (Nat.le_refl _) _
  replace hB := Lib.hid hB
  clear hN
  cases na with
  | true =>
    go_enter Tryz.func58, Tryz.ntmps58
    go_wp2_with fail
    go_ret
    exact ⟨rfl, hB.out⟩
  | false =>
    cases ba with
    | true =>
      go_enter Tryz.func58, Tryz.ntmps58
      go_wp2_with fail
      go_ret
      exact ⟨rfl, hB.out⟩
    | false =>
      go_enter Tryz.func58, Tryz.ntmps58
      go_wp2_with fail
      go_ret
      exact ⟨rfl, hB.out⟩
end Go.Proofs.YtpjbcadelmjmfaaGreatDoor
