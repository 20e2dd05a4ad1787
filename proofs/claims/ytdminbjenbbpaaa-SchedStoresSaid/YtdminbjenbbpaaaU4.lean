/- SchedStores: Run over the two writers. -/
import Derived.Test.YtdminbjenbbpaaaU3
namespace Go.Proofs.Ytdminbjenbbpaaa
open Go.RowKit

/-- What a run leaves. -/
def WRun (w : World) (F : Own) (L : Lay) (ms : List Nat) (vs : Nat → Value) (ls : Nat → List Nat) (np : Nat) (e : Ending) (w' : World) : Prop :=
  ∃ F' st sa sc ea, e = .returned (.agg #[.slice sa st.length sc, .slice ea 2 2]) ∧ Rd w' (.slice sa st.length sc) st.length ((natsI st).map (.int .i64)) ∧ (∀ k, Value.ownBlock (.slice sa st.length sc) = some k → w.heap.size < k ∧ k < w'.heap.size) ∧ (∀ k ∈ st, k < 2) ∧ st.length ≤ np ∧
    (∃ R, DevSt w' F' 0 L (2 * st.length) R ∧ DOk R (accAll ls st).want (accAll ls st).n) ∧ (∀ i b, ms[i]? = some b → Has w' b (wst (L.tb i) (vs i) ((accAll ls st).nx i)) 60) ∧ Ext w F F' ∧ Only (fun k => Mine F 0 k ∨ k ∈ ms) w w'

set_option maxHeartbeats 1000000 in
theorem wrunall_any (B : Nat) (w : World) (F : Own) (L : Lay) (R : Dv) (msa : Option Addr) (cap : Nat) (ms : List Nat) (vs : Nat → Value) (ls : Nat → List Nat) (pa : Option Addr) (pc : Nat) (ps : List Int)
    (hD : DevSt w F 0 L 0 R) (hDO : DOk R 0 0) (hm2 : ms.length = 2) (hvs : ∀ i, ∃ a c, vs i = .slice a (ls i).length c) (hls : ∀ i, (ls i).length ≤ 30 ∧ ∀ x ∈ ls i, x < 18446744073709551616)
    (hwr : ∀ i b, ms[i]? = some b → Has w b (wst (L.tb i) (vs i) 0) 60) (hrdv : ∀ i, i < 2 → Rd w (vs i) (ls i).length (u64s (ls i))) (hvsB : ∀ i k, 0 < (ls i).length → (vs i).ownBlock = some k → k < B)
    (hrd : Rd w (.slice msa 2 cap) 2 (ms.map wval)) (hfree : Free F B) (hFn : ∀ k, w.heap.size ≤ k → F k = none) (hB : B ≤ w.heap.size) (hbm : ∀ b, b ∈ ms → B ≤ b ∧ F b = none) (hinj : ∀ (i j b : Nat), ms[i]? = some b → ms[j]? = some b → i = j)
    (hmsep : ∀ k, Value.ownBlock (.slice msa 2 cap) = some k → k < w.heap.size ∧ F k = none ∧ k ∉ ms)
    (hps : Rd w (.slice pa ps.length pc) ps.length (ps.map (.int .i64))) (hpb : 0 < ps.length → ∀ k, Value.ownBlock (.slice pa ps.length pc) = some k → k < B) (hpl : ps.length ≤ 100) (hpi : ∀ p ∈ ps, -9223372036854775808 ≤ p ∧ p ≤ 9223372036854775807) :
    Calls Try.prog 13 #[.slice msa 2 cap, .slice pa ps.length pc] w (WRun w F L ms vs ls ps.length) := by
  generalize hpost : WRun w F L ms vs ls ps.length = post
  have Hpost := Lib.hid hpost
  clear hpost
  have HR0 := Has.new w [.slice none 0 0, .slice none 0 0] 27
  have hW : Below w.heap.size w (w.alloc (.cells [.slice none 0 0, .slice none 0 0].toArray 27)) := (Below.refl _ _).alloc (Nat.le_refl _) _
  have hrd1 := hrd.kept hW
  have hvb1 : ∀ k, Value.ownBlock (.slice msa 2 cap) = some k → k < (w.alloc (.cells [.slice none 0 0, .slice none 0 0].toArray 27)).heap.size := fun k hk => by have := (hmsep k hk).1; simp; omega
  have hms : ∀ b', b' ∈ ms → b' < w.heap.size := fun b' hb' => by
    obtain ⟨j, hj⟩ := List.mem_iff_getElem?.1 hb'
    exact (hwr j b' hj).lt
  have hstart := wstart_any msa cap ms (w.alloc (.cells [.slice none 0 0, .slice none 0 0].toArray 27)) (by rw [hm2]; exact hrd1) (by rw [hm2]; exact hvb1) (by omega)
  rw [hm2] at hstart
  replace hstart : Calls Try.prog 33 #[.slice msa 2 cap] (w.alloc (.cells [.slice none 0 0, .slice none 0 0].toArray 27)) (fun e w' => ∃ br be, e = .returned (.pointer (some ⟨br, 0, none⟩)) ∧ RunSt w' br be (.slice msa 2 cap) none 0 [] (List.replicate 2 (-1)) 2 ∧
      w.heap.size < br ∧ w.heap.size < be ∧ Below (w.heap.size + 1) (w.alloc (.cells [.slice none 0 0, .slice none 0 0].toArray 27)) w') := by
    refine hstart.mono ?_
    rintro e w' ⟨h1, h2, h3⟩
    rw [hm2] at h2
    refine ⟨_, _, h1, h2, by simp; omega, by simp, by simpa using h3⟩
  replace hstart := Lib.hid hstart
  have hpsw := hps
  obtain ⟨pa', pc', hp0, hpc⟩ := hps
  simp only [Value.slice.injEq, true_and] at hp0
  obtain ⟨rfl, rfl⟩ := hp0
  go_enter Try.func13, Try.ntmps13
  go_wp2_with (go_at_call 33; refine hstart.out.mono ?_)
  rintro e w1 ⟨br, be, rfl, hR, hbr, hbe, hB1⟩
  have hO00 : Only (fun _ => False) w w1 := ((Only.refl (fun _ => False) w).alloc (.cells [.slice none 0 0, .slice none 0 0].toArray 27)).trans' (Only.of_below hB1) (fun k hk h => by omega)
  have hres := HR0.only (Only.of_below hB1) (by omega)
  have hW0 : WM B w1 F L br be msa cap none 0 ms vs ls [] (List.replicate 2 (-1)) 2 := by
    refine ⟨hR, by simp, ⟨R, hD.kept hO00 (Ext.refl _ _) (fun k r s => s.elim), hDO⟩, fun i b hi => (hwr i b hi).only hO00 (fun s => s), fun i hi => (hrdv i hi).only hO00 (fun _ _ s => s), hvsB, hrd.only hO00 (fun _ _ s => s), rfl, rfl, hfree,
      ⟨by omega, hFn br (by omega)⟩, ⟨by omega, hFn be (by omega)⟩, by simp [Value.ownBlock], ?_, hinj, ?_⟩
    · intro b hb
      have := hms b hb
      exact ⟨(hbm b hb).1, (hbm b hb).2, by omega, by omega, by simp [Value.ownBlock]⟩
    · intro k hk
      obtain ⟨h1, h2, h3⟩ := hmsep k hk
      exact ⟨h2, by omega, by omega, by simp [Value.ownBlock], h3⟩
  have hO0 : Only (fun k => Mine F 0 k ∨ k ∈ ms) w w1 := hO00.mono (fun _ _ s => s.elim)
  clear hR hrd1 hvb1 HR0 hB1 hW hstart hO00 hD hDO
  go_wp2_with fail
  go_loopw [12] (fun i wr => ∃ (k : Nat) (sa : Option Addr) (sc : Nat) (F' : Own) (st : List Nat) (ended : List Int) (left : Int), k ≤ ps.length ∧ i = .int .i64 k ∧ WM B wr F' L br be msa cap sa sc ms vs ls st ended left ∧ st.length ≤ k ∧ Ext w F F' ∧
      Only (fun k => Mine F 0 k ∨ k ∈ ms) w wr ∧ Has wr w.heap.size [.slice none 0 0, .slice none 0 0] 27 ∧ F' w.heap.size = none ∧ (∀ j, Value.ownBlock (.slice sa st.length sc) = some j → w.heap.size < j)) (fun i _ => ps.length - (intOf i).toNat)
  case atStart => exact ⟨0, none, 0, F, [], _, _, Nat.zero_le _, rfl, hW0, Nat.le_refl _, Ext.refl _ _, hO0, hres, hFn _ (Nat.le_refl _), by simp [Value.ownBlock]⟩
  case round =>
    obtain ⟨k, sa, sc, F', st, ended, left, hk, rfl, hWM, hstk, hE, hO, hres, hF0, hown⟩ := hrel
    have hsz := hO.size
    clear hO0 hW0
    by_cases hlt : k < ps.length
    · rcases hpc with ⟨h0, _⟩ | ⟨pb, po, rfl, hpc⟩
      · omega
      have hpB := hpb (by omega) pb rfl
      have hc0 := hpc k _ (ints_get ps .i64 k hlt)
      have hc := hO.cell hc0 (by
        rintro (⟨r, s⟩ | s)
        · rw [hfree pb hpB] at s; cases s
        · have := (hbm pb s).1; omega)
      obtain ⟨hp1, hp2⟩ := hpi (ps.getD k 0) (by rw [List.getD, List.getElem?_eq_getElem hlt]; exact List.getElem_mem _)
      generalize ps.getD k 0 = p at *
      clear hpc hc0
      by_cases hp0 : 0 ≤ p
      · have hmp : 0 ≤ p % 2 := Int.emod_nonneg _ (by omega)
        have hml : p % 2 < 2 := Int.emod_lt_of_pos _ (by omega)
        obtain ⟨i, hi⟩ := Int.eq_ofNat_of_zero_le hmp
        have hi2 : i < 2 := by omega
        have hst := step_wm B wr F' L br be msa cap sa sc ms vs ls st ended left hWM i hi2 (by omega) hm2 hvs hls
        rw [← hi] at hst
        replace hst := Lib.hid hst
        clear hmp hml hi
        go_wp2_with (go_at_call 34; refine hst.out.mono ?_)
        rintro e w2 ⟨rfl, F2, sa2, sc2, st2, ended2, left2, hWM2, hE2, hO2, hl2, hf2⟩
        have hressz := hres.lt
        have hO3 := hO.trans' hO2 (fun j hj hf => by
          rcases hf with ⟨r, s⟩ | s | s | s | s
          · exact .inl ⟨r, by rw [← hE j hj]; exact s⟩
          · omega
          · omega
          · have := hown j s; omega
          · exact .inr s)
        have hres2 := hres.only hO2 (by
          rintro (⟨r, s⟩ | s | s | s | s)
          · rw [hF0] at s; cases s
          · omega
          · omega
          · have := hown _ s; omega
          · have := hms _ s; omega)
        have hown2 : ∀ j, Value.ownBlock (.slice sa2 st2.length sc2) = some j → w.heap.size < j := fun j hj => by
          rcases hf2 j hj with h | h
          · exact hown j h
          · omega
        have hE3 := hE.trans hE2 hsz
        have hF02 : F2 w.heap.size = none := by rw [hE2 _ hressz]; exact hF0
        clear hst hc hO hO2 hres hWM hf2 hown hE hE2
        go_wp2_with fail
        go_roundw
        case rel => exact ⟨k + 1, sa2, sc2, F2, st2, ended2, left2, by omega, by go_num, hWM2, by omega, hE3, hO3, hres2, hF02, hown2⟩
        case measure => simp [intOf]; omega
      · go_wp2_with fail
        exact ⟨⟨k + 1, sa, sc, F', st, ended, left, by omega, by go_num, hWM, by omega, hE, hO, hres, hF0, hown⟩, by simp [intOf]; omega⟩
    · have : k = ps.length := by omega
      subst this
      have r1 := hWM.run.run.cell (o := 1) rfl
      have r2 := hWM.run.run.cell (o := 2) rfl
      have hlE := hWM.lenE
      have hrl := hWM.run.own
      have hee := hWM.run.ended
      rw [natsI_len] at r1 hrl
      rw [hlE] at r2
      have q0 := hres.cell (o := 0) rfl
      have q1 := hres.cell (o := 1) rfl
      have g0 := hres.free 0
      have g1 := hres.free 1
      have HF := (hres.set 0 (.slice sa st.length sc)).set 1 (.slice (some ⟨be, 0, none⟩) 2 2)
      have z0 := HF.cell (o := 0) rfl
      have z1 := HF.cell (o := 1) rfl
      have hSS := (((Only.refl (fun k => k = w.heap.size) wr).setCell (a := ⟨w.heap.size, 0, none⟩) (fun _ => rfl) (.slice sa st.length sc)).setCell (a := ⟨w.heap.size, 1, none⟩) (fun _ => rfl) (.slice (some ⟨be, 0, none⟩) 2 2))
      have hrsz := hres.lt
      have hfin : WRun w F L ms vs ls ps.length (.returned (.agg #[.slice sa st.length sc, .slice (some ⟨be, 0, none⟩) 2 2])) ((wr.setCell ⟨w.heap.size, 0, none⟩ (.slice sa st.length sc)).setCell ⟨w.heap.size, 1, none⟩ (.slice (some ⟨be, 0, none⟩) 2 2)) := by
        obtain ⟨R1, hD1, hDO1⟩ := hWM.dev
        refine ⟨F', st, sa, sc, _, rfl, (Rd.of_own hrl).only hSS (fun k hk e => by have := hown k hk; omega), fun k hk => ?_, hWM.st2, hstk, ⟨R1, hD1.kept hSS (Ext.refl _ _) (fun k r e s => by subst e; rw [hF0] at s; cases s), hDO1⟩,
          fun i b hi => (hWM.wr i b hi).only hSS (fun e => by have := hms b (List.mem_of_getElem? hi); omega), hE, hO.trans' hSS (fun k hk e => by omega)⟩
        refine ⟨hown k hk, ?_⟩
        have := ownsRow_lt hrl hk
        simpa using this
      rw [Hpost.out] at hfin
      replace hfin := Lib.hid hfin
      clear HF hSS hrl hee hO hE hWM hown
      go_wp2_with fail
      exact bodyPost_ret (v := .agg #[.slice sa st.length sc, .slice (some ⟨be, 0, none⟩) 2 2]) (by simp [results, Try.results13, go_sem, z0, z1]) rfl hfin.out
end Go.Proofs.Ytdminbjenbbpaaa
