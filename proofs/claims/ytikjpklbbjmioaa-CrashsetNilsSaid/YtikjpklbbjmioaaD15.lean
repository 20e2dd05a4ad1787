/- The program's device: the walk of Image. -/
import Derived.Test.YtikjpklbbjmioaaD14
namespace Go.Proofs.Ytikjpklbbjmioaa
open Go.RowKit Go.Maps
variable {w : World} {F : Own} {o T : Nat} {L : Lay} {R : Dv}

/-- The roles of blocks that are not there yet may be forgotten. -/
def Own.trim (F : Own) (w : World) : Own := fun k => if k < w.heap.size then F k else none
theorem Own.trim_ext (F : Own) (w : World) : Ext w F (F.trim w) := fun _ hk => if_pos hk
theorem Own.trim_new (F : Own) (w : World) {k : Nat} (h : w.heap.size ≤ k) : F.trim w k = none := if_neg (by omega)
theorem DevSt.trim (h : DevSt w F o L T R) : DevSt w (F.trim w) o L T R := h.kept (Only.refl (fun _ => False) _) (F.trim_ext w) (fun _ _ s => s.elim)

set_option maxHeartbeats 4000000 in
set_option maxRecDepth 100000 in
theorem image_any (h : DevSt w F o L T R) (ca : Option Addr) (cc : Nat) (ch : List Nat) (hch : Rd w (.slice ca ch.length cc) ch.length (u8s ch)) (hcl : ch.length ≤ 9223372036854775807) (hc8 : ∀ x ∈ ch, x < 256) :
    Calls Try.prog 33 #[.pointer (some ⟨L.g, 0, none⟩), .slice ca ch.length cc] w (BytesPost w (bytesL (imageW R ch))) := by
  generalize hpost : BytesPost w (bytesL (imageW R ch)) = post
  have n1 := h.ok.n1
  have n2 := h.ok.n2
  have hok := h.ok
  have ht100 := h.ok.t
  have d0 := h.dev.cell (o := 0) rfl
  have d2 := h.dev.cell (o := 2) rfl
  have hpl : R.perW.length = R.lines.length * 8 := by rw [h.ok.perLen]; omega
  have hcu := cloneU_any w L.pb 0 L.pc R.perW (by rw [hpl]; exact Rd.of_own h.per) (by rw [hpl]; omega)
  rw [hpl] at hcu
  replace hcu := Lib.hid hcu
  replace hpl := Lib.hid hpl
  have hend : ∀ (w1 : World) (b c : Nat), w1.ownsRow 0 22 1 (.slice (some ⟨b, 0, none⟩) (R.lines.length * 8) c) (R.lines.length * 8) (u64s (imageW R ch)) → Below w.heap.size w w1 →
      Calls Try.prog 77 #[.slice (some ⟨b, 0, none⟩) (R.lines.length * 8) c] w1 (fun e w' => ∃ v, e = .returned v ∧ post (.returned v) w') := by
    intro w1 b c hown hB
    refine (bytesOf_any w1 b 0 c (imageW R ch) (R.lines.length * 8) (crashW_len hok _) (Rd.of_own hown) (by omega) (by omega) (crashW_lt hok _)).mono ?_
    rintro e w' ⟨g, rfl, p1, p2, p3⟩
    refine ⟨_, rfl, ?_⟩
    rw [← hpost]
    exact ⟨g, rfl, p1, hB.trans (p2.mono hB.size), Nat.le_trans hB.size p3⟩
  replace hend := Lib.hid hend
  clear hpost
  have hFb := fun k hk => F.trim_new w (k := k) hk
  have h := h.trim
  generalize F.trim w = F1 at *
  replace h := Lib.hid h
  go_enter Try.func33, Try.ntmps33
  go_wp2_with fail
  refine hcu.out.mono ?_
  rintro e w1 ⟨a1, c1, rfl, hown1, hB1, hfr1⟩
  obtain ⟨b1, ha1⟩ : ∃ b1, a1 = some ⟨b1, 0, none⟩ := by
    rcases hown1.2 with ⟨_, h2⟩ | ⟨g, cap, cur, h2, _⟩
    · omega
    · simp only [Value.slice.injEq] at h2; exact ⟨g, h2.1⟩
  subst ha1
  have hb1 := hfr1 b1 rfl
  have hb1l := ownsRow_lt hown1 (k := b1) rfl
  have hR1 : DevSt w1 F1 o L T R := h.out.below hB1
  have hch1 := hch.kept hB1
  replace hR1 := Lib.hid hR1
  clear hcu hfr1
  by_cases h0 : ch.length = 0
  · have hi0 : imageW R ch = R.perW := by rw [List.length_eq_zero_iff.1 h0, imageW_nil]
    have hl0 : (0 : Int) < ((ch.length : Nat) : Int) → False := by omega
    have hln : ¬ (0 : Int) < ((ch.length : Nat) : Int) := by omega
    have hbo := hend.out w1 b1 c1 (by rw [hi0]; exact hown1) hB1
    replace hbo := Lib.hid hbo
    replace h0 := Lib.hid h0
    replace hi0 := Lib.hid hi0
    clear hown1 hend hl0
    go_wp2_with fail
    refine hbo.out.mono ?_
    rintro e w' ⟨v, rfl, hp⟩
    replace hp := Lib.hid hp
    go_wp2_with fail
    exact hp.out
  · have hlI : (0 : Int) < ((ch.length : Nat) : Int) := by omega
    have hlI2 : (1 : Int) ≤ ((ch.length : Nat) : Int) := by omega
    have hdy := dirty_any hR1.out
    replace hdy := Lib.hid hdy
    go_wp2_with fail
    refine hdy.out.mono ?_
    rintro e w2 ⟨da, dc, rfl, hown2, hB2, hfr2⟩
    have hB02 : Below w.heap.size w w2 := hB1.trans (hB2.mono hB1.size)
    have how0 : w2.ownsRow 0 22 1 (.slice (some ⟨b1, 0, none⟩) (R.lines.length * 8) c1) (R.lines.length * 8) (u64s (crashW R (chJ R ch 0))) := by
      rw [chJ_zero]; exact ownsRow_only hown1 (Only.of_below hB2) (by intro k hk; cases hk; exact Nat.not_le.2 hb1l)
    have hrd2 := Rd.of_own hown2
    have hdl : (dirtyL R).length ≤ R.lines.length := dirtyTo_len R R.lines.length
    have hdne : ∀ k, Value.ownBlock (.slice da (dirtyL R).length dc) = some k → ¬ k = b1 := by intro k hk e; have := hfr2 k hk; omega
    have hs2 := hB2.size
    clear hown1 hdy hown2 hfr2
    go_wp2_with fail
    go_loopw [23] (fun i wr => ∃ j : Nat, j ≤ (dirtyL R).length ∧ i = .int .i64 j ∧ wr.ownsRow 0 22 1 (.slice (some ⟨b1, 0, none⟩) (R.lines.length * 8) c1) (R.lines.length * 8) (u64s (crashW R (chJ R ch j))) ∧ Only (fun k => k = b1) w2 wr) (fun i _ => (dirtyL R).length - (intOf i).toNat)
    case atStart => exact ⟨0, Nat.zero_le _, rfl, how0, Only.refl _ _⟩
    case round =>
      clear how0
      obtain ⟨j, hj, rfl, hown, hO⟩ := hrel
      have hBr : Below w.heap.size w wr := hB02.trans (hO.below (B := w.heap.size) hB02.size (by rintro k _ rfl; exact hb1))
      by_cases hlt : j < (dirtyL R).length
      · have hat := get_of_lt 0 hlt
        have hstep := chJ_step hok ch hat
        obtain ⟨hp1, hp2, hp3⟩ := dirty_at hat
        have hrd := hrd2.only hO hdne
        obtain ⟨bl, ol, cl, ea, fa⟩ := hrd.cells (by omega)
        simp only [Value.slice.injEq, true_and] at ea
        obtain ⟨rfl, hcap⟩ := ea
        replace hcap := Lib.hid hcap
        have cd : wr.cell? ⟨bl, ol + j, none⟩ = _ := fa _ _ (nats_get _ _ _ hat)
        generalize (dirtyL R).getD j 0 = n at *
        have hR : DevSt wr F1 o L T R := (hR1.out.below hB2).kept hO (Ext.refl _ _) (fun k r e e2 => by
          rw [e, hFb b1 hb1] at e2; cases e2)
        have d2r := hR.dev.cell (o := 2) rfl
        obtain ⟨cs, hv', hL, hcl2, hlin⟩ := hR.lin
        obtain ⟨x0, x1, hsub, hrole⟩ := hlin n hp2
        obtain ⟨va, vc, hva⟩ := hsub.slice
        have l1 := hL.cell x1
        rw [hva] at l1 hsub
        have hvb : ∀ k, Value.ownBlock (.slice va (R.line n).hist.length vc) = some k → ¬ k = b1 := by
          intro k hk e
          have := hrole k (by rw [hva]; exact hk)
          rw [e, hFb b1 hb1] at this; cases this
        have hchr := (hch.kept hBr)
        obtain ⟨bc, oc, cx, ec, fc⟩ := hchr.cells (by omega)
        simp only [Value.slice.injEq, true_and] at ec
        obtain ⟨rfl, hcap2⟩ := ec
        replace hcap2 := Lib.hid hcap2
        have hjm : j % ch.length < ch.length := Nat.mod_lt _ (by omega)
        have hatc := get_of_lt 0 hjm
        have cch : wr.cell? ⟨bc, oc + j % ch.length, none⟩ = _ := fc _ _ (u8s_get _ _ _ hatc)
        have hc256 := hc8 _ (List.mem_of_getElem? hatc)
        have hk : chK R ch n = ch.getD (j % ch.length) 0 % ((R.line n).hist.length + 1) := by
          unfold chK; rw [if_neg (fun e => h0 (by rw [e]; rfl)), hp1]
        have hhl := (hok.ln n hp2).hl
        have hkle := chK_le R ch n
        rw [hk] at hkle hstep
        have hkm : ch.getD (j % ch.length) 0 % ((R.line n).hist.length + 1) < (R.line n).hist.length + 1 := Nat.mod_lt _ (by omega)
        have hps : ∀ p ∈ (R.line n).hist.take (ch.getD (j % ch.length) 0 % ((R.line n).hist.length + 1)), p.1 / 8 < R.lines.length * 8 ∧ p.1 < 18446744073709551616 ∧ p.2 < 18446744073709551616 := fun p hp => by
          obtain ⟨q1, q2, q3⟩ := (hok.ln n hp2).h p (List.mem_of_mem_take hp); omega
        have hpl2 : ((R.line n).hist.take (ch.getD (j % ch.length) 0 % ((R.line n).hist.length + 1))).length = ch.getD (j % ch.length) 0 % ((R.line n).hist.length + 1) := by rw [List.length_take]; omega
        have hap := apply_any wr b1 c1 (R.lines.length * 8) _ hown va vc ((R.line n).hist.take (ch.getD (j % ch.length) 0 % ((R.line n).hist.length + 1))) (by rw [hpl2]; exact hsub.takeRd hkle) (by
          intro k hk'; exact hvb k (by cases va <;> simp [Value.ownBlock] at hk' ⊢; exact hk')) (by omega) (by omega) hps
        rw [hpl2, ← hstep] at hap
        have hjI : (j : Int) < ((dirtyL R).length : Int) := by omega
        have hnI : (n : Int) < (R.lines.length : Int) := by omega
        have hn0 : (0 : Int) ≤ (n : Int) := by omega
        have hvcI : (R.line n).hist.length ≤ vc := by
          rcases hsub.shape with ⟨h1, h2⟩ | ⟨_, _, _, h1, h2, _⟩
          · simp only [Value.slice.injEq] at h1; omega
          · simp only [Value.slice.injEq] at h1; omega
        have hmc : ((j % ch.length : Nat) : Int) < ((ch.length : Nat) : Int) := by omega
        replace hap := Lib.hid hap
        replace hk := Lib.hid hk
        replace hva := Lib.hid hva
        replace hat := Lib.hid hat
        replace hatc := Lib.hid hatc
        replace hpl2 := Lib.hid hpl2
        replace hp1 := Lib.hid hp1
        replace hstep := Lib.hid hstep
        clear hR hlin hsub hrole hL x0 x1 hown fa fc hps hchr hrd hcl2 hvb
        generalize ch.getD (j % ch.length) 0 = cv at *
        have hcvI : (cv : Int) < 256 := by omega
        have hkmI : (cv : Int) % (((R.line n).hist.length : Int) + 1) ≤ (vc : Int) := by have := Int.emod_lt_of_pos (cv : Int) (show (0 : Int) < ((R.line n).hist.length : Int) + 1 by omega); omega
        have hkm0 : 0 ≤ (cv : Int) % (((R.line n).hist.length : Int) + 1) := Int.emod_nonneg _ (by omega)
        go_wp2_with fail
        refine hap.out.mono ?_
        rintro e w3 ⟨rfl, hown3, hO3⟩
        have hO4 := hO.trans hO3
        replace hown3 := Lib.hid hown3
        go_wp2_with fail
        go_roundw
        case rel => exact ⟨j + 1, by omega, by go_num, hown3.out, hO4⟩
        case measure => simp [intOf]; omega
      · obtain rfl : j = (dirtyL R).length := by omega
        rw [chJ_all] at hown
        have hbo := hend.out wr b1 c1 hown hBr
        replace hbo := Lib.hid hbo
        clear hown hend
        go_wp2_with fail
        refine hbo.out.mono ?_
        rintro e w' ⟨v, rfl, hp⟩
        replace hp := Lib.hid hp
        go_wp2_with fail
        exact hp.out
end Go.Proofs.Ytikjpklbbjmioaa
