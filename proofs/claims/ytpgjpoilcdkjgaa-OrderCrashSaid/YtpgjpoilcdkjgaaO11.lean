/- The walk of run.execute: stores. -/
import Derived.Test.YtpgjpoilcdkjgaaO10
namespace Go.Proofs.Ytpgjpoilcdkjgaa
open Go.RowKit Go.Maps

theorem RunSt.only {w w' : World} {B cb mb T : Nat} {R : Rn} {S : Nat → Prop} (h : RunSt w B cb mb T R) (ho : Only S w w') (hs : ∀ k, k < w.heap.size → ¬ S k) : RunSt w' B cb mb T R := by
  obtain ⟨wa, wc, ra, rc, h1, h2, h3, h4, h5, h6⟩ := h.ex
  refine ⟨h.ok, h.cm, h.rb.only ho (hs _ h.rb.lt), ⟨wa, wc, ra, rc, h1.only ho (hs _ h1.lt), ownsRow_only h2 ho (fun k hk => hs k (ownsRow_lt h2 hk)), ownsRow_only h3 ho (fun k hk => hs k (ownsRow_lt h3 hk)), h4, h5, h6⟩,
    h.ct.only ho (hs _ h.ct.lt), h.md.only ho (hs _ h.md.lt), h.cv.only ho ?_, fun t ht => (h.nv t ht).only ho ?_⟩
  · obtain ⟨D, hD, _⟩ := h.cv; exact hs _ hD.lt
  · obtain ⟨D, hD, _⟩ := h.nv t ht; exact hs _ hD.lt
theorem RunSt.alloc {w : World} {B cb mb T : Nat} {R : Rn} (h : RunSt w B cb mb T R) (o : Obj) : RunSt (w.alloc o) B cb mb T R :=
  h.only ((Only.refl (fun _ => False) w).alloc o) (fun _ _ h => h)
theorem RunSt.drewN {w : World} {B cb mb T : Nat} {R : Rn} (h : RunSt w B cb mb T R) (n : Nat) : RunSt (w.drewN n) B cb mb T R :=
  h.only ((Only.refl (fun _ => False) w).drewN n) (fun _ _ h => h)
theorem RunSt.up {w : World} {B cb mb T : Nat} {R : Rn} (h : RunSt w B cb mb T R) (hT : T + 1 ≤ 20000) : RunSt w B cb mb (T + 1) R :=
  ⟨h.ok.up hT, h.cm, h.rb, h.ex, h.ct, h.md, h.cv.up (by omega), fun t ht => (h.nv t ht).up (by omega)⟩
theorem RunSt.size {w : World} {B cb mb T : Nat} {R : Rn} (h : RunSt w B cb mb T R) : B + 13 ≤ w.heap.size := by
  obtain ⟨D, ⟨es, cl, hb, _⟩, _⟩ := h.nv 7 (by omega)
  have := heap_lt hb
  omega

def ExPost (w : World) (B cb mb T : Nat) (R : Rn) (x : Ending) (w' : World) : Prop := x = .returned (.tuple #[]) ∧ RunSt w' B cb mb (T + 1) R ∧ Below B w w'

set_option maxHeartbeats 4000000 in
set_option maxRecDepth 100000 in
theorem exec1 (B cb mb T off val : Nat) (vt vo vl vn vc : Value) (R : Rn) (w : World) (h : RunSt w B cb mb T R) (hT : T + 1 ≤ 20000) (hof : off < 18446744073709551616) (hv : val < 18446744073709551616) :
    Calls Try.prog 42 #[.pointer (some ⟨B + 4, 0, none⟩), .agg #[.int .u8 1, vt, .int .u64 off, .int .u64 val, vo, vl, vn, vc]] w (ExPost w B cb mb T (if off < 64 * R.G.n ∧ off % 8 = 0 then storeP R off val else R)) := by
  have ok := h.ok
  have hn2 := ok.n2
  have hsz := h.size
  have hA := h.alloc (.cells #[.int .u8 1, vt, .int .u64 off, .int .u64 val, vo, vl, vn, vc] 65)
  have r0 := hA.rb.cell (o := 0) rfl
  obtain ⟨wa, wc, ra, rc, hg, _⟩ := hA.ex
  have g0 := hg.cell (o := 0) rfl
  have hE := Has.new w [.int .u8 1, vt, .int .u64 off, .int .u64 val, vo, vl, vn, vc] 65
  have e0 := hE.cell (o := 0) rfl
  have e2 := hE.cell (o := 2) rfl
  have e3 := hE.cell (o := 3) rfl
  have hBa : Below B w (w.alloc (.cells #[.int .u8 1, vt, .int .u64 off, .int .u64 val, vo, vl, vn, vc] 65)) := (Below.refl _ _).alloc (by omega) _
  clear hg
  by_cases hin : off < 64 * R.G.n
  · by_cases hal : off % 8 = 0
    · rw [if_pos ⟨hin, hal⟩]
      have hd1 : decide ((off : Int) < (R.G.n : Int) * 64) = true := decide_eq_true (by omega)
      have hd2 : ((off : Int) % 8 == 0) = true := by rw [beq_iff_eq]; omega
      have hc := Lib.hid (fun n => store_any B cb mb T off val R _ (hA.drewN n) hT hin hal hv)
      generalize hpost : ExPost w B cb mb T (storeP R off val) = post
      have hend : ∀ w', RunSt w' B cb mb (T + 1) (storeP R off val) → Below B w w' → post (.returned (.tuple #[])) w' := by
        intro w' p1 p2; rw [← hpost]; exact ⟨rfl, p1, p2⟩
      replace hend := Lib.hid hend
      have hinI : (off : Int) < (R.G.n : Int) * 64 := by omega
      have halI : (off : Int) % 8 = 0 := by omega
      clear hpost
      replace hin := Lib.hid hin
      replace hal := Lib.hid hal
      go_enter Try.func42, Try.ntmps42
      go_wp2_with fail
      go_quiet (fail)
      go_wp2_with fail
      refine (hc.out nq).mono ?_
      rintro e w1 ⟨rfl, p1, p2⟩
      have hx := hend.out w1 p1 ((below_drewN hBa nq).trans p2)
      go_wp2_with fail
      first | exact hx | exact bodyPost_end (results_none rfl _ _ _) rfl hx
    · rw [if_neg (fun h => hal h.2)]
      have hd1 : decide ((off : Int) < (R.G.n : Int) * 64) = true := decide_eq_true (by omega)
      have hd2 : ((off : Int) % 8 == 0) = false := by rw [beq_eq_false_iff_ne]; omega
      generalize hpost : ExPost w B cb mb T R = post
      have hend : ∀ w', RunSt w' B cb mb (T + 1) R → Below B w w' → post (.returned (.tuple #[])) w' := by
        intro w' p1 p2; rw [← hpost]; exact ⟨rfl, p1, p2⟩
      have hx := Lib.hid (fun n => hend _ ((hA.up hT).drewN n) (below_drewN hBa n))
      have hinI : (off : Int) < (R.G.n : Int) * 64 := by omega
      have halI : ¬ (off : Int) % 8 = 0 := by omega
      clear hpost hend
      replace hin := Lib.hid hin
      replace hal := Lib.hid hal
      go_enter Try.func42, Try.ntmps42
      go_wp2_with fail
      go_quiet (fail)
      go_wp2_with fail
      first | exact hx.out _ | exact bodyPost_end (results_none rfl _ _ _) rfl (hx.out _)
  · rw [if_neg (fun h => hin h.1)]
    have hd1 : decide ((off : Int) < (R.G.n : Int) * 64) = false := decide_eq_false (by omega)
    generalize hpost : ExPost w B cb mb T R = post
    have hend : ∀ w', RunSt w' B cb mb (T + 1) R → Below B w w' → post (.returned (.tuple #[])) w' := by
      intro w' p1 p2; rw [← hpost]; exact ⟨rfl, p1, p2⟩
    have hx := Lib.hid (fun n => hend _ ((hA.up hT).drewN n) (below_drewN hBa n))
    have hinI : ¬ (off : Int) < (R.G.n : Int) * 64 := by omega
    clear hpost hend
    replace hin := Lib.hid hin
    go_enter Try.func42, Try.ntmps42
    go_wp2_with fail
    go_quiet (fail)
    go_wp2_with fail
    first | exact hx.out _ | exact bodyPost_end (results_none rfl _ _ _) rfl (hx.out _)
end Go.Proofs.Ytpgjpoilcdkjgaa
