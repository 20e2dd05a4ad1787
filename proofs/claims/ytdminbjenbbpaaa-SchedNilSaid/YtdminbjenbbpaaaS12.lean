/- Contract of RoundRobin over Steps machines. -/
import Derived.Test.YtdminbjenbbpaaaS7
import Derived.Test.YtdminbjenbbpaaaP3
import Derived.Deep.LoopGhost
namespace Go.Proofs.Ytdminbjenbbpaaa
open Go.RowKit

/-- What RoundRobin leaves. -/
def RoundLeft (B : Nat) (w : World) (msa : Option Addr) (cap : Nat) (ms : List (Option Nat)) (s' : RS) (e : Ending) (w' : World) : Prop :=
  ∃ sa sc ea, e = .returned (.tuple #[.agg #[.slice sa s'.steps.length sc, .slice ea ms.length ms.length], .bool (decide (s'.left = 0))]) ∧ Rd w' (.slice sa s'.steps.length sc) s'.steps.length (s'.steps.map (.int .i64)) ∧
    Rd w' (.slice ea ms.length ms.length) ms.length (s'.ended.map (.int .i64)) ∧ s'.ended.length = ms.length ∧ Below B w w' ∧ Only (fun k => some k ∈ ms) w w'

/-- The state of the walk at the head of the outer loop, and inside. -/
structure RRS (B : Nat) (w : World) (wr : World) (br be : Nat) (msa : Option Addr) (cap : Nat) (sa : Option Addr) (sc : Nat) (ms : List (Option Nat)) (T : Nat) (s : RS) : Prop where
  rm : RM B wr br be msa cap sa sc ms s
  inv : Inv ms T s
  fr : Only (fun k => some k ∈ ms) w wr
  res : Has wr w.heap.size [.slice none 0 0, .slice none 0 0] 27
  own : ∀ j, Value.ownBlock (.slice sa s.steps.length sc) = some j → w.heap.size < j

theorem RRS.stepped {B : Nat} {w wr w2 : World} {br be : Nat} {msa : Option Addr} {cap : Nat} {sa : Option Addr} {sc : Nat} {ms : List (Option Nat)} {T : Nat} {s : RS} {i : Nat} (h : RRS B w wr br be msa cap sa sc ms T s)
    (hbr : w.heap.size < br) (hbe : w.heap.size < be) (hM : ∀ b, some b ∈ ms → b < w.heap.size)
    (hs : StepLeft B wr br be msa cap sa sc ms s (stepP ms s i) w2) : ∃ sa' sc', RRS B w w2 br be msa cap sa' sc' ms T (stepP ms s i) := by
  obtain ⟨sa', sc', hR, hO, hf⟩ := hs
  refine ⟨sa', sc', hR, inv_step h.inv i, h.fr.trans' hO ?_, h.res.only hO ?_, ?_⟩
  · intro j hj hh
    rcases hh with rfl | rfl | hh | hh
    · omega
    · omega
    · have := h.own j hh; omega
    · exact hh
  · intro hh
    rcases hh with hh | hh | hh | hh
    · omega
    · omega
    · have := h.own _ hh; omega
    · have := hM _ hh; omega
  · intro j hj
    rcases hf j hj with h1 | h1
    · exact h.own j h1
    · have := h.res.lt; omega

set_option maxHeartbeats 4000000 in
theorem round_any (B : Nat) (w : World) (msa : Option Addr) (cap : Nat) (ms : List (Option Nat)) (ls : List Int) (bound : Int) (hM : MSt w ms ls) (hrd : Rd w (.slice msa ms.length cap) ms.length (ms.map mval))
    (hvb : ∀ k, Value.ownBlock (.slice msa ms.length cap) = some k → k < w.heap.size ∧ some k ∉ ms)
    (hls : ∀ (i : Nat) (n : Int), ls[i]? = some n → 0 ≤ n ∧ n ≤ 9223372036854775807) (hBw : B ≤ w.heap.size) (hbm : ∀ b, some b ∈ ms → B ≤ b) (hn : ms.length < 1099511627776)
    (hbd : -9223372036854775808 ≤ bound ∧ bound ≤ 9223372036854775807) (T : Nat) (hT : T < 1099511627776) (hinv : Inv ms T (startS ms ls)) :
    Calls Try.prog 18 #[.slice msa ms.length cap, .int .i64 bound] w (RoundLeft B w msa cap ms (rrP ms bound (bound.toNat + 1) (startS ms ls))) := by
  generalize hfin : rrP ms bound (bound.toNat + 1) (startS ms ls) = fin
  generalize hpost : RoundLeft B w msa cap ms fin = post
  have Hpost := Lib.hid hpost
  have Hfin := Lib.hid hfin
  clear hpost hfin
  have HR0 := Has.new w [.slice none 0 0, .slice none 0 0] 27
  have hW : Below w.heap.size w (w.alloc (.cells [.slice none 0 0, .slice none 0 0].toArray 27)) := (Below.refl _ _).alloc (Nat.le_refl _) _
  have hrd1 := hrd.kept hW
  have hM1 := hM.only (Only.of_below hW) (fun b hb => by have := hM.lt b hb; omega)
  have hvb1 : ∀ k, Value.ownBlock (.slice msa ms.length cap) = some k → k < (w.alloc (.cells [.slice none 0 0, .slice none 0 0].toArray 27)).heap.size := fun k hk => by have := (hvb k hk).1; simp; omega
  go_enter Try.func18, Try.ntmps18
  go_wp2_with (go_at_call 33; refine (start_ex _ _ _ _ hrd1 hvb1 hn).mono ?_)
  rintro e w1 ⟨br, be, rfl, hR, hbr, hbe, hB1⟩
  have hRM := RM.start (B := B) hR hbr hbe hB1 hM1 hrd1 (fun k hk => ⟨hvb1 k hk, (hvb k hk).2⟩) hls (by simp; omega) hbm
  have hres := HR0.only (Only.of_below hB1) (by simp)
  have hO0 := ((Only.refl (fun k => some k ∈ ms) w).alloc (.cells [.slice none 0 0, .slice none 0 0].toArray 27)).trans' (Only.of_below hB1) (fun k hk h => by simp at h; omega)
  simp only [World.size_alloc] at hbr hbe
  have hI : RRS B w w1 br be msa cap none 0 ms T (startS ms ls) := ⟨hRM, hinv, hO0, hres, by simp [Value.ownBlock]⟩
  have hMlt := hM.lt
  clear hR hrd1 hM1 hvb1 HR0 hB1 hW hO0 hres hRM
  go_wp2_with fail
  go_loopg [27] (bound.toNat + 1) (fun g i wr => ∃ (s : RS) (sa : Option Addr) (sc : Nat), RRS B w wr br be msa cap sa sc ms T s ∧ Hid (rrP ms bound g s = fin) ∧ (bound - s.steps.length).toNat < g)
  case atStart => exact ⟨startS ms ls, none, 0, hI, Hfin, by simp [startS]⟩
  case round =>
    clear hI Hfin
    obtain ⟨s, sa, sc, hS, hfin, hg⟩ := hrel
    have hbs := hS.inv.tot
    have hal := hS.inv.al
    have hal0 := alive_nonneg ms s.ended
    have hal1 := alive_le ms s.ended
    have c0 := hS.rm.run.run.cell (o := 0) rfl
    have c1 := hS.rm.run.run.cell (o := 1) rfl
    have c2 := hS.rm.run.run.cell (o := 2) rfl
    have c3 := hS.rm.run.run.cell (o := 3) rfl
    replace hal := Lib.hid hal
    by_cases hc : condP bound s
    · have hc1 := hc.1
      have hc2 := hc.2
      have hmore := inner_more hS.inv bound hc
      obtain ⟨g', rfl⟩ : ∃ g', gk = g' + 1 := ⟨gk - 1, by omega⟩
      have hnext : rrP ms bound g' (innerP ms bound s ms.length) = fin := by have := hfin.out; rw [rrP, if_pos ⟨hc1, hc2⟩] at this; exact this
      replace hnext := Lib.hid hnext
      have hgm : (bound - (innerP ms bound s ms.length).steps.length).toNat < g' := by omega
      have hstop := innerP_stop ms bound s
      have hsucc := innerP_succ ms bound s
      replace hstop := Lib.hid hstop
      replace hsucc := Lib.hid hsucc
      have hc2' := hc2
      obtain ⟨wo, hwo⟩ : ∃ wo : World, wo = wr := ⟨_, rfl⟩
      subst hwo
      clear hmore hc
      go_wp2_with fail
      go_loopw [27] (fun i wr => ∃ (k : Nat) (sa2 : Option Addr) (sc2 : Nat), k ≤ ms.length ∧ i = .int .i64 k ∧ RRS B w wr br be msa cap sa2 sc2 ms T (innerP ms bound s k)) (fun i _ => ms.length - (intOf i).toNat)
      case atStart => exact ⟨0, sa, sc, Nat.zero_le _, rfl, hS⟩
      case round =>
        clear c0 c1 c2 c3
        obtain ⟨k, sa2, sc2, hk, rfl, hS2⟩ := hrel
        have hbs2 := hS2.inv.tot
        have hsk := Lib.hid (rfl : innerP ms bound s k = innerP ms bound s k)
        have hrm := hS2.rm
        have hsk1 := hsucc.out k
        have hskx := hstop.out k
        by_cases hlt : k < ms.length
        · have c1 := hS2.rm.run.run.cell (o := 1) rfl
          generalize innerP ms bound s k = t at *
          by_cases hbr2 : bound ≤ t.steps.length
          · have e : innerP ms bound s ms.length = t := by
              have := hskx hbr2 (ms.length - k)
              rwa [show k + (ms.length - k) = ms.length from by omega] at this
            rw [e] at hnext hgm
            clear hskx hsk1 e hsk
            go_wp2_with fail
            go_roundg g'
            case measure => omega
            case rel => exact ⟨t, sa2, sc2, hS2, hnext, hgm⟩
          · have hst := Lib.hid (step_rm B wr br be msa cap sa2 sc2 ms t hrm k hlt (by omega) hn)
            have e : innerP ms bound s (k + 1) = stepP ms t k := by rw [hsk1, inner1, if_neg hbr2]
            replace e := Lib.hid e
            clear hskx hsk1 hsk
            go_wp2_with fail
            refine hst.out.mono ?_
            rintro e2 w2 ⟨rfl, hleft⟩
            obtain ⟨sa3, sc3, hS3⟩ := hS2.stepped (by omega) (by omega) hMlt hleft
            clear hst hleft c1 hS2 hrm
            go_wp2_with fail
            go_roundw
            case rel => exact ⟨k + 1, sa3, sc3, by omega, by go_num, by rw [e.out]; exact hS3⟩
            case measure => simp [intOf]; omega
        · have hkn : k = ms.length := by omega
          subst hkn
          clear hskx hsk1
          go_wp2_with fail
          go_roundg g'
          case measure => omega
          case rel => exact ⟨_, sa2, sc2, hS2, hnext, hgm⟩
    · have hd : s = fin := by
        have h1 := hfin.out
        cases gk with
        | zero => omega
        | succ g => rwa [rrP, if_neg (show ¬ (0 < s.left ∧ (s.steps.length : Int) < bound) from hc)] at h1
      subst hd
      have hrun := hS.rm.run
      have hres := hS.res
      have hlE := hS.rm.lenE
      have f0 := hres.free 0
      have f1 := hres.free 1
      have q0 := hres.cell (o := 0) rfl
      have q1 := hres.cell (o := 1) rfl
      have hne1 : w.heap.size ≠ br := by omega
      have HF := (hres.set 0 (.slice sa s.steps.length sc)).set 1 (.slice (some ⟨be, 0, none⟩) s.ended.length s.ended.length)
      have z0 := HF.cell (o := 0) rfl
      have z1 := HF.cell (o := 1) rfl
      have d3 := ((hrun.run.set_ne (a := ⟨w.heap.size, 0, none⟩) (fun h => hne1 h.symm) (.slice sa s.steps.length sc)).set_ne (a := ⟨w.heap.size, 1, none⟩) (fun h => hne1 h.symm) (.slice (some ⟨be, 0, none⟩) s.ended.length s.ended.length)).cell (o := 3) rfl
      have hb0 : (s.left == 0) = decide (s.left = 0) := by rw [Bool.eq_iff_iff]; simp
      replace hlE := Lib.hid hlE
      replace hb0 := Lib.hid hb0
      have hOz : Only (fun j => j = w.heap.size) wr ((wr.setCell ⟨w.heap.size, 0, none⟩ (.slice sa s.steps.length sc)).setCell ⟨w.heap.size, 1, none⟩ (.slice (some ⟨be, 0, none⟩) s.ended.length s.ended.length)) := ((Only.refl (fun j => j = w.heap.size) wr).setCell (a := ⟨w.heap.size, 0, none⟩) (fun _ => rfl) _).setCell (a := ⟨w.heap.size, 1, none⟩) (fun _ => rfl) _
      have G1 := Lib.hid ((Rd.of_own hrun.own).only hOz (fun k hk e => by have := hS.own k hk; omega))
      have G2 := Lib.hid ((Rd.of_has hrun.ended s.ended.length s.ended.length).only hOz (fun k hk e => by simp [Value.ownBlock] at hk; omega))
      have G3 := Lib.hid ((hS.fr.setCell (a := ⟨w.heap.size, 0, none⟩) (fun h => absurd h (Nat.lt_irrefl _)) (.slice sa s.steps.length sc)).setCell (a := ⟨w.heap.size, 1, none⟩) (fun h => absurd h (Nat.lt_irrefl _)) (.slice (some ⟨be, 0, none⟩) s.ended.length s.ended.length))
      have hcase : s.left ≤ 0 ∨ (0 < s.left ∧ bound ≤ s.steps.length) := by
        rcases Int.lt_or_le 0 s.left with h1 | h1
        · exact .inr ⟨h1, Int.not_lt.1 (fun h2 => hc ⟨h1, h2⟩)⟩
        · exact .inl h1
      clear hc HF hOz hS hrun hres
      rcases hcase with hleft | ⟨hleft, hge⟩
      all_goals
        go_wp2_with fail
        go_region
        go_wp2_with fail
        refine bodyPost_ret (v := .tuple #[.agg #[.slice sa s.steps.length sc, .slice (some ⟨be, 0, none⟩) s.ended.length s.ended.length], .bool (s.left == 0)]) (by simp [results, Try.results18, go_sem, z0, z1]) rfl ?_
        rw [← Hpost.out]
        refine ⟨sa, sc, some ⟨be, 0, none⟩, by rw [← hlE.out, ← hb0.out], G1.out, by rw [← hlE.out]; exact G2.out, hlE.out, ?_, ?_⟩
        · exact G3.out.drew.below hBw (fun k _ hk => hbm k hk)
        · exact G3.out.drew
end Go.Proofs.Ytdminbjenbbpaaa
