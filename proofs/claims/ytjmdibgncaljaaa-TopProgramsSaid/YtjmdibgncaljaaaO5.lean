/- The walk of Count. -/
import Derived.Test.YtjmdibgncaljaaaO4
import Derived.Test.YtjmdibgncaljaaaMul
namespace Go.Proofs.Ytjmdibgncaljaaa
open Go.RowKit

/-- The product over the first k lines, or nothing beyond 2^62. -/
def cntP (G : Gr) : Nat → Option Nat
  | 0 => some 1
  | k + 1 => match cntP G k with
    | none => none
    | some t => if t * (G.ct.getD k 0 - G.md.getD k 0 + 1) > 4611686018427387904 then none else some (t * (G.ct.getD k 0 - G.md.getD k 0 + 1))
theorem cntP_none (G : Gr) : ∀ (n k : Nat), k ≤ n → cntP G k = none → cntP G n = none := by
  intro n k h
  induction h with
  | refl => exact id
  | step _ ih => intro h; simp only [cntP, ih h]
theorem cntP_le (G : Gr) : ∀ (k t : Nat), cntP G k = some t → t ≤ 4611686018427387904 := by
  intro k t h
  cases k with
  | zero => simp [cntP] at h; omega
  | succ k =>
    simp only [cntP] at h
    split at h
    · cases h
    · split at h
      · cases h
      · simp only [Option.some.injEq] at h; omega
def cntV (o : Option Nat) : Value := match o with
  | none => .tuple #[.int .u64 4611686018427387904, .bool false]
  | some t => .tuple #[.int .u64 (t : Int), .bool true]

set_option maxHeartbeats 2000000 in
set_option maxRecDepth 100000 in
theorem count_any (g : Nat) (G : Gr) (w : World) (h : GraphSt w g G) :
    Calls Try.prog 11 #[.pointer (some ⟨g, 0, none⟩)] w fun e w' => e = .returned (cntV (cntP G G.n)) ∧ ∃ m, w.drewN m = w' := by
  have ok := h.ok
  have hn2 := ok.n2
  have hn1 := ok.n1
  obtain ⟨wa, wc, ra, rc, ca, ma, h1, h2, h3, h4, h5⟩ := h.ex
  obtain ⟨bc, oc, cc, e4, f4⟩ := h4.cells hn1
  obtain ⟨bm, om, cm, e5, f5⟩ := h5.cells hn1
  simp only [Value.slice.injEq, true_and] at e4 e5
  obtain ⟨rfl, hcc⟩ := e4
  obtain ⟨rfl, hcm⟩ := e5
  replace hcc := Lib.hid hcc
  replace hcm := Lib.hid hcm
  have c3 := h1.cell (o := 3) rfl
  have c4 := h1.cell (o := 4) rfl
  generalize hr : cntV (cntP G G.n) = res
  have hend : ∀ t, cntP G G.n = some t → res = .tuple #[.int .u64 (t : Int), .bool true] := by intro t ht; rw [← hr, ht]; rfl
  have hno : cntP G G.n = none → res = .tuple #[.int .u64 4611686018427387904, .bool false] := by intro ht; rw [← hr, ht]; rfl
  clear hr
  replace hend := Lib.hid hend
  replace hno := Lib.hid hno
  go_enter Try.func11, Try.ntmps11
  go_wp2_with fail
  go_loopw [4, 16] (fun t i wr => ∃ (k n m : Nat), k ≤ G.n ∧ i = .int .i64 k ∧ t = .int .u64 n ∧ wr = w.drewN m ∧ Hid (cntP G k = some n)) (fun _ i _ => G.n - (intOf i).toNat)
  case atStart => exact ⟨0, 1, 0, Nat.zero_le _, rfl, rfl, rfl, rfl⟩
  case round =>
    obtain ⟨k, n, m, hk, rfl, rfl, hwr, hc⟩ := hrel
    by_cases hlt : k < G.n
    · have d3 := cell_drewN hwr.symm c3
      have d4 := cell_drewN hwr.symm c4
      have dc := cell_drewN hwr.symm (f4 k _ (nats_get G.ct k _ (get_of_lt 0 (by rw [ok.cl]; exact hlt))))
      have dm := cell_drewN hwr.symm (f5 k _ (nats_get G.md k _ (get_of_lt 0 (by rw [ok.ml]; exact hlt))))
      have hcb := ok.cb _ (mem_getD 0 (by rw [ok.cl]; exact hlt) : G.ct.getD k 0 ∈ G.ct)
      have hmc := ok.mc k
      have hnb := cntP_le G k n hc.out
      have hsucc : cntP G (k + 1) = if n * (G.ct.getD k 0 - G.md.getD k 0 + 1) > 4611686018427387904 then none else some (n * (G.ct.getD k 0 - G.md.getD k 0 + 1)) := by simp only [cntP, hc.out]
      have hkI : (k : Int) < G.n := by omega
      generalize G.ct.getD k 0 = cv at *
      generalize G.md.getD k 0 = mv at *
      obtain ⟨q, hq⟩ : ∃ q, q = cv - mv + 1 := ⟨_, rfl⟩
      rw [← hq] at hsucc
      have hqI : ((cv : Int) - (mv : Int) + 1) = (q : Int) := by omega
      have hqb : q ≤ 20001 := by omega
      replace hwr := Lib.hid hwr
      clear c3 c4 f4 f5
      have hmul := Try.bits_Mul64 n q (by omega) (by omega) wr
      rw [← hqI] at hmul
      generalize hx : n * q = x at *
      have hxb : x ≤ 4611686018427387904 * 20001 := by rw [← hx]; exact Nat.mul_le_mul hnb hqb
      obtain ⟨hi, hhi⟩ : ∃ hi, hi = x / 18446744073709551616 := ⟨_, rfl⟩
      obtain ⟨lo, hlo⟩ : ∃ lo, lo = x % 18446744073709551616 := ⟨_, rfl⟩
      rw [← hhi, ← hlo] at hmul
      have hhib : hi < 18446744073709551616 := by omega
      have hlob : lo < 18446744073709551616 := by omega
      replace hmul := Lib.hid hmul
      replace hqI := Lib.hid hqI
      clear hq hx hxb
      by_cases hbig : x > 4611686018427387904
      · rw [if_pos hbig] at hsucc
        have hx := Lib.hid (hno.out (cntP_none G G.n (k + 1) (by omega) hsucc))
        clear hsucc
        by_cases hh : hi = 0
        · have hn0 : ((hi : Int) != 0) = false := by simp [hh]
          have hl1 : decide ((lo : Int) > 4611686018427387904) = true := decide_eq_true (by omega)
          have hl2 : lo > 4611686018427387904 := by omega
          replace hh := Lib.hid hh
          replace hhi := Lib.hid hhi
          replace hlo := Lib.hid hlo
          go_wp2_with fail
          refine hmul.out.mono ?_
          rintro e w1 ⟨rfl, rfl⟩
          go_wp2_with fail
          go_ret2
          exact ⟨by rw [hx.out]; rfl, m, hwr.out.symm⟩
        · have hn0 : ((hi : Int) != 0) = true := by simp [hh]
          have hl2 : ¬ (hi : Int) = 0 := by omega
          replace hh := Lib.hid hh
          replace hhi := Lib.hid hhi
          replace hlo := Lib.hid hlo
          go_wp2_with fail
          refine hmul.out.mono ?_
          rintro e w1 ⟨rfl, rfl⟩
          go_wp2_with fail
          go_ret2
          exact ⟨by rw [hx.out]; rfl, m, hwr.out.symm⟩
      · rw [if_neg hbig] at hsucc
        have hxl : x = lo := by omega
        rw [hxl] at hsucc
        replace hsucc := Lib.hid hsucc
        have hh : hi = 0 := by omega
        have hn0 : ((hi : Int) != 0) = false := by simp [hh]
        have hl1 : decide ((lo : Int) > 4611686018427387904) = false := decide_eq_false (by omega)
        have hl2 : ¬ lo > 4611686018427387904 := by omega
        replace hh := Lib.hid hh
        replace hhi := Lib.hid hhi
        replace hlo := Lib.hid hlo
        replace hxl := Lib.hid hxl
        go_wp2_with fail
        refine hmul.out.mono ?_
        rintro e w1 ⟨rfl, rfl⟩
        go_wp2_with fail
        go_roundw
        case rel => exact ⟨k + 1, lo, m, by omega, by go_num, rfl, hwr.out, hsucc⟩
        case measure => simp [intOf]; omega
    · have hk' : k = G.n := by omega
      subst hk'
      have hx := Lib.hid (hend.out n hc.out)
      replace hwr := Lib.hid hwr
      go_wp2_with fail
      go_ret2
      exact ⟨by rw [hx.out]; rfl, m, hwr.out.symm⟩
end Go.Proofs.Ytjmdibgncaljaaa
