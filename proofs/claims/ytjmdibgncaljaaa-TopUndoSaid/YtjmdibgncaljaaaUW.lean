/- Walks: the law's run. -/
import Derived.Test.YtjmdibgncaljaaaUV
import Derived.Deep.LoopGhost
namespace Go.Proofs.Ytjmdibgncaljaaa
open Go.RowKit Dev
variable {w : World} {F : Dev.Own} {T : Nat} {L : Lay} {R : Dv}
/-- The law's cUndo in memory, with its log; none of it is the device's. -/
structure UAt (w : World) (F : Dev.Own) (L : Lay) (ub lb : Nat) (ol nl : List Nat) (oa na : Option Addr) (oc nc : Nat) : Prop where
  u : Has w ub [.pointer (some ⟨L.g, 0, none⟩), .pointer (some ⟨lb, 0, none⟩), .slice oa 56 oc, .slice na 56 nc] 72
  fu : F ub = none
  lo : ol.length = 56
  ln : nl.length = 56
  ro : Rd w (.slice oa 56 oc) 56 (u64s ol)
  fo : ∀ k, Value.ownBlock (.slice oa 56 oc) = some k → F k = none
  rn : Rd w (.slice na 56 nc) 56 (u64s nl)
  fn : ∀ k, Value.ownBlock (.slice na 56 nc) = some k → F k = none
  lg : LogAt w lb (L.tb 0)
  fl : F lb = none
variable {ub lb : Nat} {ol nl : List Nat} {oa na : Option Addr} {oc nc : Nat}
theorem u64s_ne {l : List Nat} (h : l.length = 56) : u64s l ≠ [] := fun e => by
  have := congrArg List.length e
  rw [u64s_len, h] at this; cases this
theorem UAt.below {w' : World} (h : UAt w F L ub lb ol nl oa na oc nc) (hb : Below w.heap.size w w') : UAt w' F L ub lb ol nl oa na oc nc :=
  ⟨Has.only h.u (Only.of_below hb) (Nat.not_le.2 h.u.lt), h.fu, h.lo, h.ln, h.ro.kept hb, h.fo, h.rn.kept hb, h.fn, h.lg.below hb, h.fl⟩
theorem UAt.dstep {w' : World} {F' : Dev.Own} (h : UAt w F L ub lb ol nl oa na oc nc) (hs : Dstep w F 0 w' F') : UAt w' F' L ub lb ol nl oa na oc nc :=
  ⟨Has.only h.u hs.only (fun ⟨r, e⟩ => by rw [h.fu] at e; cases e), (hs.ext ub h.u.lt).trans h.fu, h.lo, h.ln,
    h.ro.only hs.only (fun k hk ⟨r, e⟩ => by rw [h.fo k hk] at e; cases e), fun k hk => (hs.ext k (h.ro.lt (u64s_ne h.lo) hk)).trans (h.fo k hk),
    h.rn.only hs.only (fun k hk ⟨r, e⟩ => by rw [h.fn k hk] at e; cases e), fun k hk => (hs.ext k (h.rn.lt (u64s_ne h.ln) hk)).trans (h.fn k hk),
    Has.only h.lg hs.only (fun ⟨r, e⟩ => by rw [h.fl] at e; cases e), (hs.ext lb (Has.lt h.lg)).trans h.fl⟩
theorem UAt.trim (h : UAt w F L ub lb ol nl oa na oc nc) : UAt w (F.trim w) L ub lb ol nl oa na oc nc := h.dstep ⟨F.trim_ext w, Only.refl _ _⟩
theorem dstep_untrim {w' : World} {F' : Dev.Own} (h : Dstep w (F.trim w) 0 w' F') : Dstep w F 0 w' F' :=
  ⟨fun k hk => (h.ext k hk).trans (F.trim_ext w k hk), h.only.mono fun k hk ⟨r, e⟩ => ⟨r, by rw [F.trim_ext w k hk] at e; exact e⟩⟩
def URunP (w : World) (F : Dev.Own) (L : Lay) (T : Nat) (R : Dv) (e : Ending) (w' : World) : Prop := ∃ F', e = .returned (.bool true) ∧ DevSt w' F' 0 L T R ∧ Dstep w F 0 w' F'
set_option maxHeartbeats 8000000 in
set_option maxRecDepth 100000 in
theorem urun_any (h : DevSt w F 0 L T R) (hO : Ok10 R) (hu : UAt w F L ub lb ol nl oa na oc nc) {b a : Bool} {l : List In} {pa : Option Addr} {pc : Nat} (hr : Rd w (.slice pa l.length pc) l.length (inCells l)) (ha : l = [] → pa = none ∧ pc = 0)
    (hl : l.length ≤ 1000) (hf : ∀ x ∈ l, FitT x) (hT : T + 2 * l.length ≤ 100000) (hall : ∀ k T', 0 < k → k ≤ l.length → ((l.take k).foldl devI R).Ok T' → AllOk ((l.take k).foldl devI R) ol nl b a) :
    Calls Try.prog 26 #[.pointer (some ⟨ub, 0, none⟩), .slice pa l.length pc, .bool b, .bool a] w (URunP w F L (T + 2 * l.length) (l.foldl devI R)) := by
  generalize hpost : URunP w F L (T + 2 * l.length) (l.foldl devI R) = post
  obtain ⟨n, hn⟩ : ∃ n, l.length = n := ⟨_, rfl⟩
  have hfin : ∀ w' F', DevSt w' F' 0 L (T + 2 * n) (l.foldl devI R) → Dstep w (F.trim w) 0 w' F' → post (.returned (.bool true)) w' := fun w' F' h1 h2 => by
    rw [← hpost, hn]; exact ⟨F', rfl, h1, dstep_untrim h2⟩
  have hst := fun tb => ustep_any w tb pa pc l (fun x hx => (hf x hx).f) hr ha hl
  have hth := thread_in h (t := 0) (by decide)
  have hOl := hO.run hf
  have h0 := h.trim
  have hu0 := hu.trim
  have hF0 : ∀ k, w.heap.size ≤ k → F.trim w k = none := fun k hk => F.trim_new w hk
  obtain ⟨F0, hF0e⟩ : ∃ F0, F.trim w = F0 := ⟨_, rfl⟩
  rw [hF0e] at h0 hu0 hF0 hfin
  have u0 := hu.u.cell (o := 0) rfl
  rw [hn] at hst hT hl ⊢
  replace hst := Lib.hid (hst (L.tb 0))
  replace hth := Lib.hid hth
  replace hfin := Lib.hid hfin
  replace h0 := Lib.hid h0
  replace hu0 := Lib.hid hu0
  replace hF0 := Lib.hid hF0
  replace hall := Lib.hid hall
  replace hf := Lib.hid hf
  replace hOl := Lib.hid hOl
  clear hpost hr ha h hu hO hF0e
  have hnz : ((n : Int) == 0) = decide (0 = n) := by
    by_cases e : n = 0
    · simp [e]
    · rw [decide_eq_false (fun h => e h.symm)]; simp; exact e
  go_enter Try.func26, Try.ntmps26
  go_wp2_with fail
  refine hth.out.mono ?_
  rintro e w' ⟨rfl, rfl⟩
  go_wp2_with fail
  refine hst.out.mono ?_
  rintro e w1 ⟨sb, qa, qc, rfl, hsb, hB1, hS1, hR1, hne⟩
  have hD1 : DevSt w1 F0 0 L (T + 2 * 0) R := h0.out.below hB1
  have hSt1 : StS w1 F0 sb (L.tb 0) l qa qc := ⟨hS1, hR1.rd, own_cap hR1.o, hF0.out sb hsb, fun k hk => ⟨hF0.out k (hR1.ob k hk), hne k hk, ownsRow_lt hR1.o hk⟩⟩
  have hst0 := Lib.hid (show DevSt w1 F0 0 L (T + 2 * 0) ((l.take 0).foldl devI R) ∧ Dstep w F0 0 w1 F0 ∧ StS w1 F0 sb (L.tb 0) (l.drop 0) qa qc from ⟨hD1, Dstep.below hB1, hSt1⟩)
  clear hD1 hSt1 hS1 hR1 hB1 hst u0 hth
  go_wp2_with fail
  go_loopg [10] (n + 1) (fun g s10 wr => ∃ (k : Nat) (F' : Dev.Own) (qa : Option Addr) (qc : Nat), k ≤ n ∧ n - k < g ∧ s10 = .bool (decide (k = n)) ∧ DevSt wr F' 0 L (T + 2 * k) ((l.take k).foldl devI R) ∧ Dstep w F0 0 wr F' ∧ StS wr F' sb (L.tb 0) (l.drop k) qa qc)
  case atStart => exact ⟨0, F0, qa, qc, by omega, by omega, rfl, hst0.out⟩
  case round =>
    clear hst0
    obtain ⟨k, F', qa, qc, hk, hg, rfl, hD, hS, hSt⟩ := hrel
    by_cases hkn : k = n
    · subst hkn
      rw [List.take_of_length_le (Nat.le_of_eq hn)] at hD
      have hE := ustepE_any hD hSt.h
      rw [hOl.out.er] at hE
      have hf2 := Lib.hid (hfin.out wr F' hD hS)
      have hd : decide (k = k) = true := decide_eq_true rfl
      replace hE := Lib.hid hE
      clear hD hS hSt
      rw [hd]
      go_wp2_with fail
      refine hE.out.mono ?_
      rintro e w' ⟨rfl, rfl⟩
      go_wp2_with fail
      first | exact hf2.out | (go_ret; exact hf2.out)
    · have hlt : k < n := by omega
      have hdr : l.drop k = l[k]'(by omega) :: l.drop (k + 1) := List.drop_eq_getElem_cons (by omega)
      have htk : (l.take (k + 1)).foldl devI R = devI ((l.take k).foldl devI R) (l[k]'(by omega)) := by
        rw [List.take_add_one, List.getElem?_eq_getElem (by omega), List.foldl_append]; rfl
      have hxf := hf.out (l[k]'(by omega)) (List.getElem_mem _)
      generalize l[k]'(by omega) = x at *
      rw [hdr] at hSt
      have hss := ustepS_any hD (by omega) (by rw [List.length_drop]; omega) hxf.f hSt
      rw [← htk, show T + 2 * k + 2 = T + 2 * (k + 1) by omega] at hss
      have hde : decide (l.drop (k + 1) = []) = decide (k + 1 = n) := by
        apply decide_eq_decide.2
        rw [List.drop_eq_nil_iff]
        omega
      have hAk := hall.out (k + 1) (T + 2 * (k + 1)) (by omega) (by omega)
      obtain ⟨R1, hR1⟩ : ∃ R1, (l.take (k + 1)).foldl devI R = R1 := ⟨_, rfl⟩
      rw [hR1] at hss hAk
      replace hR1 := Lib.hid hR1
      unfold StepP at hss
      rw [hde] at hss
      have hd : decide (k = n) = false := decide_eq_false hkn
      rw [hd]
      have hgk : n - (k + 1) < gk - 1 := by omega
      replace hss := Lib.hid hss
      replace hS := Lib.hid hS
      clear hD hSt hdr htk hde
      go_wp2_with fail
      refine hss.out.mono ?_
      rintro e w2 ⟨F2, q2, c2, rfl, hD2, hX2, hO2, hSt2⟩
      have hS2 : Dstep w F0 0 w2 F2 := ⟨hS.out.ext.trans hX2 hS.out.only.size, hS.out.only.trans' hO2 fun j hj hm => by
        rcases hm with ⟨r, e⟩ | e
        · exact ⟨r, by rw [← hS.out.ext j hj]; exact e⟩
        · omega⟩
      have hu2 := hu0.out.dstep hS2
      have hal := uall_any hD2 ol nl hu2.lo hu2.ln b a (hAk hD2.ok) hu2.u hu2.ro hu2.rn
      replace hal := Lib.hid hal
      replace hD2 := Lib.hid hD2
      replace hS2 := Lib.hid hS2
      replace hSt2 := Lib.hid hSt2
      clear hX2 hO2 hss hu2
      go_wp2_with fail
      refine hal.out.mono ?_
      rintro e w3 ⟨rfl, hB3⟩
      have hD3 : DevSt w3 F2 0 L (T + 2 * (k + 1)) R1 := hD2.out.below hB3
      have hrel3 := Lib.hid (show DevSt w3 F2 0 L (T + 2 * (k + 1)) R1 ∧ Dstep w F0 0 w3 F2 ∧ StS w3 F2 sb (L.tb 0) (l.drop (k + 1)) q2 c2 from ⟨hD3, hS2.out.trans (Dstep.below hB3), hSt2.out.below hB3⟩)
      clear hD3 hB3 hal
      go_wp2_with fail
      go_roundg (gk - 1)
      case measure => omega
      case rel => exact ⟨k + 1, F2, q2, c2, by omega, hgk, rfl, by rw [hR1.out]; exact hrel3.out⟩
end Go.Proofs.Ytjmdibgncaljaaa
