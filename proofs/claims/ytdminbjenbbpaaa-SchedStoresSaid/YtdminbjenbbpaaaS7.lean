/- Contract of Run over Steps machines. -/
import Derived.Test.YtdminbjenbbpaaaS6
namespace Go.Proofs.Ytdminbjenbbpaaa
open Go.RowKit

def pickP (ms : List (Option Nat)) (s : RS) (p : Int) : RS := if 0 ≤ p ∧ 0 < ms.length then stepP ms s (p % ms.length).toNat else s
def runP (ms : List (Option Nat)) (s : RS) (ps : List Int) : RS := ps.foldl (pickP ms) s
def startS (ms : List (Option Nat)) (ls : List Int) : RS := ⟨[], List.replicate ms.length (-1), cnt ms, ls⟩

theorem stepP_steps (ms : List (Option Nat)) (s : RS) (i : Nat) : (stepP ms s i).steps.length ≤ s.steps.length + 1 := by
  unfold stepP
  split
  · split <;> simp
  · omega
theorem runP_steps (ms : List (Option Nat)) (s : RS) (ps : List Int) : (runP ms s ps).steps.length ≤ s.steps.length + ps.length := by
  induction ps generalizing s with
  | nil => simp [runP]
  | cons p ps ih =>
    have h := ih (pickP ms s p)
    have h2 : (pickP ms s p).steps.length ≤ s.steps.length + 1 := by
      unfold pickP; split
      · exact stepP_steps ..
      · omega
    simp only [runP, List.foldl_cons, List.length_cons] at h ⊢
    omega
theorem runP_snoc (ms : List (Option Nat)) (s : RS) (ps : List Int) (p : Int) : runP ms s (ps ++ [p]) = pickP ms (runP ms s ps) p := by simp [runP]

theorem start_ex (a : Option Addr) (cap : Nat) (ms : List (Option Nat)) (w : World) (hv : Rd w (.slice a ms.length cap) ms.length (ms.map mval)) (hvb : ∀ k, Value.ownBlock (.slice a ms.length cap) = some k → k < w.heap.size) (hn : ms.length < 1099511627776) :
    Calls Try.prog 33 #[.slice a ms.length cap] w (fun e w' => ∃ br be, e = .returned (.pointer (some ⟨br, 0, none⟩)) ∧ RunSt w' br be (.slice a ms.length cap) none 0 [] (List.replicate ms.length (-1)) (cnt ms) ∧ w.heap.size ≤ br ∧ w.heap.size ≤ be ∧ Below w.heap.size w w') :=
  (start_any a cap ms w hv hvb hn).mono fun _ _ ⟨h1, h2, h3⟩ => ⟨_, _, h1, h2, by omega, Nat.le_refl _, h3⟩

theorem RM.start {B : Nat} {w w1 : World} {br be : Nat} {msa : Option Addr} {cap : Nat} {ms : List (Option Nat)} {ls : List Int} (hR : RunSt w1 br be (.slice msa ms.length cap) none 0 [] (List.replicate ms.length (-1)) (cnt ms))
    (h1 : w.heap.size ≤ br) (h2 : w.heap.size ≤ be) (hB : Below w.heap.size w w1) (hM : MSt w ms ls) (hrd : Rd w (.slice msa ms.length cap) ms.length (ms.map mval)) (hvb : ∀ k, Value.ownBlock (.slice msa ms.length cap) = some k → k < w.heap.size ∧ some k ∉ ms)
    (hls : ∀ (i : Nat) (n : Int), ls[i]? = some n → 0 ≤ n ∧ n ≤ 9223372036854775807) (hBw : B ≤ w.heap.size) (hbm : ∀ b, some b ∈ ms → B ≤ b) : RM B w1 br be msa cap none 0 ms (startS ms ls) := by
  have hlt := hM.lt
  refine ⟨hR, hM.only (Only.of_below hB) (fun b hb => by have := hlt b hb; omega), hrd.kept hB, by simp [startS], hls, ?_, by omega, by omega, by simp [Value.ownBlock], hbm, ?_, ?_⟩
  · simp only [startS]; rw [alive_start]; rfl
  · intro b hb; have := hlt b hb; simp [Value.ownBlock]; omega
  · intro k hk
    obtain ⟨h1, h2⟩ := hvb k hk
    exact ⟨by omega, by omega, by simp [Value.ownBlock], h2⟩

/-- What a run leaves. -/
def RunLeft (B : Nat) (w : World) (msa : Option Addr) (cap : Nat) (ms : List (Option Nat)) (s' : RS) (e : Ending) (w' : World) : Prop :=
  ∃ sa sc ea, e = .returned (.agg #[.slice sa s'.steps.length sc, .slice ea ms.length ms.length]) ∧ Rd w' (.slice sa s'.steps.length sc) s'.steps.length (s'.steps.map (.int .i64)) ∧
    Rd w' (.slice ea ms.length ms.length) ms.length (s'.ended.map (.int .i64)) ∧ s'.ended.length = ms.length ∧ MSt w' ms s'.ls ∧ Below B w w' ∧ Only (fun k => some k ∈ ms) w w' 

set_option maxHeartbeats 1000000 in
theorem run_any (B : Nat) (w : World) (msa : Option Addr) (cap : Nat) (ms : List (Option Nat)) (ls : List Int) (pa : Option Addr) (pc : Nat) (ps : List Int) (hM : MSt w ms ls) (hrd : Rd w (.slice msa ms.length cap) ms.length (ms.map mval))
    (hvb : ∀ k, Value.ownBlock (.slice msa ms.length cap) = some k → k < w.heap.size ∧ some k ∉ ms)
    (hls : ∀ (i : Nat) (n : Int), ls[i]? = some n → 0 ≤ n ∧ n ≤ 9223372036854775807) (hBw : B ≤ w.heap.size) (hbm : ∀ b, some b ∈ ms → B ≤ b) (hn : ms.length < 1099511627776)
    (hps : Rd w (.slice pa ps.length pc) ps.length (ps.map (.int .i64))) (hpb : 0 < ps.length → ∀ k, Value.ownBlock (.slice pa ps.length pc) = some k → some k ∉ ms) (hpl : ps.length < 1099511627776) (hpi : ∀ p ∈ ps, -9223372036854775808 ≤ p ∧ p ≤ 9223372036854775807) :
    Calls Try.prog 13 #[.slice msa ms.length cap, .slice pa ps.length pc] w (RunLeft B w msa cap ms (runP ms (startS ms ls) ps)) := by
  generalize hpost : RunLeft B w msa cap ms (runP ms (startS ms ls) ps) = post
  have Hpost := Lib.hid hpost
  clear hpost
  have HR0 := Has.new w [.slice none 0 0, .slice none 0 0] 27
  have hW : Below w.heap.size w (w.alloc (.cells [.slice none 0 0, .slice none 0 0].toArray 27)) := (Below.refl _ _).alloc (Nat.le_refl _) _
  have hrd1 := hrd.kept hW
  have hps1 := hps.kept hW
  have hM1 := hM.only (Only.of_below hW) (fun b hb => by have := hM.lt b hb; omega)
  have hvb1 : ∀ k, Value.ownBlock (.slice msa ms.length cap) = some k → k < (w.alloc (.cells [.slice none 0 0, .slice none 0 0].toArray 27)).heap.size := fun k hk => by have := (hvb k hk).1; simp; omega
  obtain ⟨pa', pc', hp0, hpc⟩ := hps
  simp only [Value.slice.injEq, true_and] at hp0
  obtain ⟨rfl, rfl⟩ := hp0
  go_enter Try.func13, Try.ntmps13
  go_wp2_with (go_at_call 33; refine (start_ex _ _ _ _ hrd1 hvb1 hn).mono ?_)
  rintro e w1 ⟨br, be, rfl, hR, hbr, hbe, hB1⟩
  have hRM := RM.start (B := B) hR hbr hbe hB1 hM1 hrd1 (fun k hk => ⟨hvb1 k hk, (hvb k hk).2⟩) hls (by simp; omega) hbm
  have hres := HR0.only (Only.of_below hB1) (by simp)
  have hO0 := ((Only.refl (fun k => some k ∈ ms) w).alloc (.cells [.slice none 0 0, .slice none 0 0].toArray 27)).trans' (Only.of_below hB1) (fun k hk h => by simp at h; omega)
  have hsz0 := hO0.size
  simp only [World.size_alloc] at hbr hbe
  clear hR hrd1 hps1 hM1 hvb1 HR0 hB1 hW
  go_wp2_with fail
  go_loopw [12] (fun i wr => ∃ (k : Nat) (sa : Option Addr) (sc : Nat), k ≤ ps.length ∧ i = .int .i64 k ∧ RM B wr br be msa cap sa sc ms (runP ms (startS ms ls) (ps.take k)) ∧ Only (fun k => some k ∈ ms) w wr ∧
      Has wr w.heap.size [.slice none 0 0, .slice none 0 0] 27 ∧ (∀ j, Value.ownBlock (.slice sa (runP ms (startS ms ls) (ps.take k)).steps.length sc) = some j → w.heap.size < j)) (fun i _ => ps.length - (intOf i).toNat)
  case atStart => exact ⟨0, none, 0, Nat.zero_le _, rfl, by simpa [runP] using hRM, hO0, hres, by simp [Value.ownBlock]⟩
  case round =>
    obtain ⟨k, sa, sc, hk, rfl, hRM, hO, hres, hown⟩ := hrel
    have hsz := hO.size
    have hrl := runP_steps ms (startS ms ls) (ps.take k)
    have htl : (ps.take k).length ≤ k := List.length_take_le _ _
    have hs0 : (startS ms ls).steps.length = 0 := rfl
    by_cases hlt : k < ps.length
    · rcases hpc with ⟨h0, _⟩ | ⟨pb, po, rfl, hpc⟩
      · omega
      have hc0 := hpc k _ (ints_get ps .i64 k hlt)
      have hc := hO.cell hc0 (hpb (by omega) pb rfl)
      have htk := take_getD ps k 0 hlt
      obtain ⟨hp1, hp2⟩ := hpi (ps.getD k 0) (by rw [List.getD, List.getElem?_eq_getElem hlt]; exact List.getElem_mem _)
      have hnext : runP ms (startS ms ls) (ps.take (k+1)) = pickP ms (runP ms (startS ms ls) (ps.take k)) (ps.getD k 0) := by rw [htk, runP_snoc]
      generalize ps.getD k 0 = p at *
      generalize runP ms (startS ms ls) (ps.take k) = s at *
      have Hnext := Lib.hid hnext
      clear hnext htk hpc hc0
      by_cases hpos : 0 ≤ p ∧ 0 < ms.length
      · obtain ⟨hp0, hm0⟩ := hpos
        have hmp : 0 ≤ p % (ms.length : Int) := Int.emod_nonneg _ (by omega)
        have hml : p % (ms.length : Int) < ms.length := Int.emod_lt_of_pos _ (by omega)
        have hpick : pickP ms s p = stepP ms s (p % ms.length).toNat := by simp only [pickP]; rw [if_pos ⟨hp0, hm0⟩]
        obtain ⟨i, hi⟩ := Int.eq_ofNat_of_zero_le hmp
        rw [hi, Int.toNat_natCast] at hpick
        rw [hpick] at Hnext
        have hi2 : i < ms.length := by omega
        have hst := Lib.hid (step_rm B wr br be msa cap sa sc ms s hRM i hi2 (by omega) hn)
        clear hpick hmp hml
        go_wp2_with (go_at_call 34; refine hst.out.mono ?_)
        rintro e w2 ⟨rfl, sa', sc', hRM2, hO2, hf2⟩
        clear hst hi hc
        go_wp2_with fail
        go_roundw
        case rel =>
          refine ⟨k + 1, sa', sc', by omega, by go_num, by rw [Hnext.out]; exact hRM2, hO.trans' hO2 ?_, hres.only hO2 ?_, ?_⟩
          · intro j hj hf
            rcases hf with rfl | rfl | hf | hf
            · omega
            · omega
            · have := hown j hf; omega
            · exact hf
          · intro hf
            rcases hf with h | h | h | h
            · omega
            · omega
            · have := hown _ h; omega
            · have := hM.lt _ h; omega
          · rw [Hnext.out]
            intro j hj
            rcases hf2 j hj with h | h
            · exact hown j h
            · have := hres.lt; omega
        case measure => simp [intOf]; omega
      · have hpick : pickP ms s p = s := by simp only [pickP]; rw [if_neg hpos]
        rw [hpick] at Hnext
        clear hpick
        by_cases hp0 : 0 ≤ p
        all_goals
          go_wp2_with fail
          go_roundw
          case rel => exact ⟨k + 1, sa, sc, by omega, by go_num, by rw [Hnext.out]; exact hRM, hO, hres, by rw [Hnext.out]; exact hown⟩
          case measure => simp [intOf]; omega
    · have : k = ps.length := by omega
      subst this
      rw [List.take_of_length_le (Nat.le_refl _)] at hRM hown hrl
      generalize runP ms (startS ms ls) ps = s at *
      have r1 := hRM.run.run.cell (o := 1) rfl
      have r2 := hRM.run.run.cell (o := 2) rfl
      have q0 := hres.cell (o := 0) rfl
      have q1 := hres.cell (o := 1) rfl
      have g0 := hres.free 0
      have g1 := hres.free 1
      have HF := (hres.set 0 (.slice sa s.steps.length sc)).set 1 (.slice (some ⟨be, 0, none⟩) s.ended.length s.ended.length)
      have z0 := HF.cell (o := 0) rfl
      have z1 := HF.cell (o := 1) rfl
      have hOF := (hO.setCell (a := ⟨w.heap.size, 0, none⟩) (fun h => absurd h (Nat.lt_irrefl _)) (.slice sa s.steps.length sc)).setCell (a := ⟨w.heap.size, 1, none⟩) (fun h => absurd h (Nat.lt_irrefl _)) (.slice (some ⟨be, 0, none⟩) s.ended.length s.ended.length)
      have HO1 := Lib.hid hOF
      have HMF := Lib.hid ((hRM.mst.only (((Only.refl (fun k => k = w.heap.size) wr).setCell (a := ⟨w.heap.size, 0, none⟩) (fun _ => rfl) (.slice sa s.steps.length sc)).setCell (a := ⟨w.heap.size, 1, none⟩) (fun _ => rfl) (.slice (some ⟨be, 0, none⟩) s.ended.length s.ended.length)) (fun b hb e => by have := hM.lt b hb; omega)))
      have HRF := Lib.hid ((Rd.of_own hRM.run.own).only (((Only.refl (fun k => k = w.heap.size) wr).setCell (a := ⟨w.heap.size, 0, none⟩) (fun _ => rfl) (.slice sa s.steps.length sc)).setCell (a := ⟨w.heap.size, 1, none⟩) (fun _ => rfl) (.slice (some ⟨be, 0, none⟩) s.ended.length s.ended.length)) (fun k hk e => by have := hown k hk; omega))
      have HEF := Lib.hid (Rd.of_has (((hRM.run.ended.set_ne (a := ⟨w.heap.size, 0, none⟩) (by simp; omega) (.slice sa s.steps.length sc)).set_ne (a := ⟨w.heap.size, 1, none⟩) (by simp; omega) (.slice (some ⟨be, 0, none⟩) s.ended.length s.ended.length))) s.ended.length s.ended.length)
      clear hOF HF
      go_wp2_with fail
      have hlE := hRM.lenE
      refine bodyPost_ret (v := .agg #[.slice sa s.steps.length sc, .slice (some ⟨be, 0, none⟩) s.ended.length s.ended.length]) (by simp [results, Try.results13, go_sem, z0, z1]) rfl ?_
      rw [← Hpost.out]
      refine ⟨sa, sc, some ⟨be, 0, none⟩, by rw [hlE], HRF.out, by rw [← hlE]; exact HEF.out, hlE, HMF.out, HO1.out.below hBw (fun k _ hk => hbm k hk), HO1.out⟩
end Go.Proofs.Ytdminbjenbbpaaa
