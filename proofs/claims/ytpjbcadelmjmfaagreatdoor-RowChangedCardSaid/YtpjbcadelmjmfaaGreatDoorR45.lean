/- The walk of Version at any bytes. -/
import Derived.Test.YtpjbcadelmjmfaaGreatDoorR40
import Derived.Test.YtpjbcadelmjmfaaGreatDoorR37
namespace Go.Proofs.YtpjbcadelmjmfaaGreatDoor
open Go.RowKit Go.Lib
set_option linter.unusedVariables false

def verP (p : List Nat) : Int × Nat := if p.length < 3 ∨ (p.getD 0 0 = 0 ∧ p.getD 1 0 = 0) then (0, 11) else ((p.getD 0 0 : Int) + 256 * (p.getD 1 0 : Int), 0)
set_option maxHeartbeats 4000000 in
set_option maxRecDepth 100000 in
theorem version_p (p : List Nat) (hp : ∀ x ∈ p, x < 256) (hpl : p.length ≤ 1000000) (sa : Option Addr) (sc : Nat) (w : World) (hr : Rd w (.slice sa p.length sc) p.length (bcells p)) :
    Calls Tryz.prog 21 #[.slice sa p.length sc] w (RPost w (.tuple #[.int .i64 (verP p).1, .int .i64 ((verP p).2 : Nat)])) := by
  by_cases h3 : p.length < 3
  · have e : verP p = (0, 11) := by unfold verP; rw [if_pos (.inl h3)]
    rw [e]
    generalize hpost : RPost w (.tuple #[.int .i64 (0 : Int), .int .i64 ((11 : Nat) : Int)]) = post
    have hf : post (.returned (.tuple #[.int .i64 0, .int .i64 11])) w := by rw [← hpost]; exact ⟨rfl, Below.refl _ _⟩
    obtain ⟨n, hn⟩ : ∃ n, n = p.length := ⟨_, rfl⟩
    rw [← hn] at h3 ⊢
    have d3 : decide ((n : Int) < 3) = true := decide_eq_true (by omega)
    replace hpost := Lib.hid hpost
    replace hf := Lib.hid hf
    replace hn := Lib.hid hn
    go_enter Tryz.func21, Tryz.ntmps21
    go_wp2_with fail
    first | exact hf.out | (go_ret; exact hf.out) | (go_ret2; exact hf.out)
  · match p, hp, hpl, hr, h3 with
    | a :: b :: r, hp, hpl, hr, h3 =>
      have ha := hp a (by simp)
      have hb := hp b (by simp)
      by_cases hz : a = 0 ∧ b = 0
      · obtain ⟨rfl, rfl⟩ := hz
        have e : verP (0 :: 0 :: r) = (0, 11) := by unfold verP; rw [if_pos (.inr ⟨rfl, rfl⟩)]
        rw [e]
        generalize hpost : RPost w (.tuple #[.int .i64 (0 : Int), .int .i64 ((11 : Nat) : Int)]) = post
        have hf : post (.returned (.tuple #[.int .i64 0, .int .i64 11])) w := by rw [← hpost]; exact ⟨rfl, Below.refl _ _⟩
        obtain ⟨bl, ol, rfl, hcell⟩ := byte_cell hr (by simp)
        have c0 : w.cell? ⟨bl, ol, none⟩ = some (.int .u8 0) := hcell 0 (by simp)
        have c1 : w.cell? ⟨bl, ol + 1, none⟩ = some (.int .u8 0) := hcell 1 (by simp)
        generalize (0 :: 0 :: r).length = n at *
        have d3 : decide ((n : Int) < 3) = false := decide_eq_false (by omega)
        have q0 : 0 < n := by omega
        have q1 : 1 < n := by omega
        have q2 : (0 : Int) < n := by omega
        have q3 : (1 : Int) < n := by omega
        replace hpost := Lib.hid hpost
        replace hf := Lib.hid hf
        clear hcell hr
        go_enter Tryz.func21, Tryz.ntmps21
        go_wp2_with fail
        first | exact hf.out | (go_ret; exact hf.out) | (go_ret2; exact hf.out)
      · have e : verP (a :: b :: r) = ((a : Int) + 256 * (b : Int), 0) := by
          unfold verP
          rw [if_neg]
          · rfl
          · rintro (h | h)
            · exact h3 h
            · exact hz h
        rw [e]
        exact version_any a b r ha hb hz hpl (by omega) sa sc w hr
    | [], _, _, _, h3 => simp at h3
    | [_], _, _, _, h3 => simp at h3
end Go.Proofs.YtpjbcadelmjmfaaGreatDoor
