/- The program's device: Load, apply. -/
import Derived.Test.YtikjpklbbjmioaaD5
namespace Go.Proofs.Ytikjpklbbjmioaa
open Go.RowKit Go.Maps
variable {w : World} {F : Own} {o T : Nat} {L : Lay} {R : Dv}

theorem mayP_full (R : Dv) (t : Nat) (b : Bool) (h : mayB R b = true) : mayP R t b = R ∧ b = true := by
  unfold mayB at h
  cases hoff : R.off <;> cases b <;> simp [hoff] at h
  simp [mayP, hoff]
set_option maxHeartbeats 1000000 in
theorem load_any (h : DevSt w F o L T R) {t off : Nat} (ht : t < 8) (ho : off < 18446744073709551616) :
    Calls Try.prog 85 #[.pointer (some ⟨L.tb t, 0, none⟩), .int .u64 (off : Int)] w (DPost w F o L T (mayP R t (R.isB off)) (.int .u64 ((loadV R off : Nat) : Int))) := by
  generalize hpost : DPost w F o L T (mayP R t (R.isB off)) (.int .u64 ((loadV R off : Nat) : Int)) = post
  have c0 := (h.thr t ht).1.cell (o := 0) rfl
  have hw := Lib.hid (word_any h ht ho)
  have hon := on_any w F o T t (R.isB off) L R h ht
  by_cases hm : mayB R (R.isB off) = true
  · obtain ⟨e1, e2⟩ := mayP_full R t _ hm
    have hin : off < 64 * R.lines.length ∧ off % 8 = 0 := by
      unfold Dv.isB at e2; simp only [decide_eq_true_eq] at e2; exact ⟨e2.2, e2.1⟩
    have e3 : loadV R off = valueP R off := by unfold loadV; rw [if_pos hm]
    rw [e1, e3] at hpost
    rw [hm, e1] at hon
    have hcur := cur_at h.ok hin.1
    have hn2 := h.ok.n2
    have ho8I : ((off / 8 : Nat) : Int) < ((R.lines.length * 8 : Nat) : Int) := by omega
    replace hcur := Lib.hid hcur
    replace hpost := Lib.hid hpost
    replace hon := Lib.hid hon
    clear h hm e1 e2 e3
    go_enter Try.func85, Try.ntmps85
    go_wp2_with fail
    refine hw.out.mono ?_
    rintro e w' ⟨rfl, rfl⟩
    go_wp2_with fail
    refine hon.out.mono ?_
    rintro e w1 ⟨F1, rfl, h1, s1⟩
    have c0 := (h1.thr t ht).1.cell (o := 0) rfl
    have c1 := h1.dev.cell (o := 1) rfl
    have cc := h1.cur.cellAt (off / 8) (by omega)
    rw [u64s_get _ _ _ hcur.out] at cc
    replace h1 := Lib.hid h1
    obtain ⟨_, hin2⟩ := hin
    replace hin2 := Lib.hid hin2
    go_wp2_with fail
    rw [← hpost.out]
    exact ⟨F1, rfl, h1.out, s1⟩
  · have hm1 : mayB R (R.isB off) = false := by simpa using hm
    have e3 : loadV R off = 0 := by unfold loadV; rw [if_neg hm]
    rw [e3] at hpost
    rw [hm1] at hon
    replace hpost := Lib.hid hpost
    replace hon := Lib.hid hon
    clear h hm hm1 e3
    go_enter Try.func85, Try.ntmps85
    go_wp2_with fail
    refine hw.out.mono ?_
    rintro e w' ⟨rfl, rfl⟩
    go_wp2_with fail
    refine hon.out.mono ?_
    rintro e w1 ⟨F1, rfl, h1, s1⟩
    replace h1 := Lib.hid h1
    go_wp2_with fail
    rw [← hpost.out]
    exact ⟨F1, rfl, h1.out, s1⟩

def ApplyPost (w : World) (pb pc m : Nat) (ws : List Nat) (e : Ending) (w' : World) : Prop :=
  e = .returned (.tuple #[]) ∧ w'.ownsRow 0 22 1 (.slice (some ⟨pb, 0, none⟩) m pc) m (u64s ws) ∧ Only (fun k => k = pb) w w'
set_option maxHeartbeats 2000000 in
theorem apply_any (w : World) (pb pc m : Nat) (ws : List Nat) (hown : w.ownsRow 0 22 1 (.slice (some ⟨pb, 0, none⟩) m pc) m (u64s ws)) (sa : Option Addr) (sc : Nat) (ps : List (Nat × Nat)) (hr : Rd w (.slice sa ps.length sc) ps.length (wcells ps))
    (hne : ∀ k, Value.ownBlock (.slice sa ps.length sc) = some k → ¬ k = pb) (hm : m ≤ 40000) (hl : ps.length ≤ 100000) (hp : ∀ p ∈ ps, p.1 / 8 < m ∧ p.1 < 18446744073709551616 ∧ p.2 < 18446744073709551616) :
    Calls Try.prog 76 #[.slice (some ⟨pb, 0, none⟩) m pc, .slice sa ps.length sc] w (ApplyPost w pb pc m (ps.foldl setA ws)) := by
  generalize hpost : ApplyPost w pb pc m (ps.foldl setA ws) = post
  replace hpost := Lib.hid hpost
  go_enter Try.func76, Try.ntmps76
  go_wp2_with fail
  go_loopw [8] (fun i wr => ∃ k : Nat, k ≤ ps.length ∧ i = .int .i64 k ∧ wr.ownsRow 0 22 1 (.slice (some ⟨pb, 0, none⟩) m pc) m (u64s ((ps.take k).foldl setA ws)) ∧ Only (fun k => k = pb) w wr) (fun i _ => ps.length - (intOf i).toNat)
  case atStart => exact ⟨0, Nat.zero_le _, rfl, hown, Only.refl _ _⟩
  case round =>
    clear hown
    obtain ⟨k, hk, rfl, hown, hO⟩ := hrel
    by_cases hlt : k < ps.length
    · have hat := get_of_lt (0, 0) hlt
      have hpk := hp _ (List.mem_of_getElem? hat)
      have hsucc : (ps.take (k + 1)).foldl setA ws = setA ((ps.take k).foldl setA ws) (ps.getD k (0, 0)) := by
        rw [take_getD ps k (0, 0) hlt, List.foldl_append]; rfl
      generalize ps.getD k (0, 0) = p at *
      obtain ⟨p1, p2⟩ := p
      obtain ⟨hp1, hp2, hp3⟩ := hpk
      simp only at hp1 hp2 hp3
      have hrw := hr.only hO hne
      obtain ⟨bl, ol, cl, ea, fa⟩ := hrw.cells (by omega)
      simp only [Value.slice.injEq, true_and] at ea
      obtain ⟨rfl, hcap⟩ := ea
      replace hcap := Lib.hid hcap
      have c0 : wr.cell? ⟨bl, ol + k * 2, none⟩ = _ := fa _ _ (wcells_get ps k _ hat).1
      have c1 : wr.cell? ⟨bl, ol + k * 2 + 1, none⟩ = _ := fa _ _ (wcells_get ps k _ hat).2
      simp only at c0 c1
      have hH := Has.new wr [.int .u64 p1, .int .u64 p2] 144
      have e0 := hH.cell (o := 0) rfl
      have e1 := hH.cell (o := 1) rfl
      have hwl := hown.1
      rw [u64s_len] at hwl
      have hownA := hown.alloc (.cells #[.int .u64 (p1 : Int), .int .u64 (p2 : Int)] 144)
      have hq : (p1 / 8) < ((ps.take k).foldl setA ws).length := by omega
      have hc := hownA.cellAt (p1 / 8) (by omega)
      rw [u64s_get _ _ _ (get_of_lt 0 hq)] at hc
      have hf := hownA.frozenAt (p1 / 8)
      have hst := (hownA.stored (p1 / 8) (.int .u64 (p2 : Int))).1
      rw [← u64s_set] at hst
      have hO2 := (hO.alloc (.cells #[.int .u64 (p1 : Int), .int .u64 (p2 : Int)] 144)).setCell (a := ⟨pb, p1 / 8, none⟩) (fun _ => rfl) (.int .u64 (p2 : Int))
      have e2 : setA ((ps.take k).foldl setA ws) (p1, p2) = ((ps.take k).foldl setA ws).set (p1 / 8) p2 := rfl
      rw [← e2, ← hsucc] at hst
      have hqI : ((p1 / 8 : Nat) : Int) < (m : Int) := by omega
      have hlI : (k : Int) < ps.length := by omega
      replace hsucc := Lib.hid hsucc
      replace hwl := Lib.hid hwl
      replace hat := Lib.hid hat
      replace hst := Lib.hid hst
      clear hown hownA hrw fa e2 hH
      generalize ((ps.take k).foldl setA ws).getD (p1 / 8) 0 = old at *
      go_wp2_with fail
      go_roundw
      case rel => exact ⟨k + 1, by omega, by go_num, hst.out, hO2⟩
      case measure => simp [intOf]; omega
    · obtain rfl : k = ps.length := by omega
      rw [List.take_length] at hown
      have hfin : post (.returned (.tuple #[])) wr := by rw [← hpost.out]; exact ⟨rfl, hown, hO⟩
      replace hfin := Lib.hid hfin
      clear hown
      go_wp2_with fail
      first | exact hfin.out | exact bodyPost_end (results_none rfl _ _ _) rfl hfin.out
end Go.Proofs.Ytikjpklbbjmioaa
