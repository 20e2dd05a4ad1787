/- The walk of spanOf. -/
import Derived.Test.YtgnoikfmhncbmaaGreatDoorB8
import Derived.Deep.LoopGhost
import Derived.Test.YtgnoikfmhncbmaaGreatDoorQP
set_option linter.unusedVariables false
set_option linter.unusedSimpArgs false
namespace Go.Proofs.YtgnoikfmhncbmaaGreatDoor
open Go.RowKit
theorem wpList_updateM {P : Program} {w w' : World} {ops : Array Oper} {rest : List Oper} {o : Oper} {a : Act} {Q : Exit → Act → World → Prop} (hgd : o.guard = none) (m x v : Operand) (t : TypeId)
    (ho : o.op = .mapUpdate t m x v) (hrun : (Instr.mapUpdate t (a.eval m) (a.eval x) (a.eval v)).run P w = .ok () w') (h : wpList P ops Q rest (a.put o.dst undef) w') : wpList P ops Q (o :: rest) a w := by
  refine wpList_plain hgd fun K hK => ?_
  unfold Oper.wp
  simp [execOp, ho, hrun, Result.andThen]
  exact hK _ _ h
theorem infoPEx : (Tryz.prog.info? 24).map (fun i => (i.zero, i.size, i.bytes)) = some (some (.pointer none), 1, 8) := by kernel_rfl
theorem own_some {w : World} {e : TypeId} {n c : Nat} {sa : Option Addr} {xs : List Value} (h : w.ownsRow 0 e 1 (.slice sa (n + 1) c) (n + 1) xs) : ∃ g, sa = some ⟨g, 0, none⟩ ∧ n + 1 ≤ c ∧ ∀ j v, xs[j]? = some v → w.cell? ⟨g, j, none⟩ = some v := by
  obtain ⟨_, cap', h1, h2⟩ := Rd.of_own h
  cases h1
  have h3 := h.2
  rcases h3 with ⟨h3, _⟩ | ⟨g, cap, cur, h3, _, _, h6, _⟩
  · cases h3
  · cases h3
    rcases h2 with ⟨h4, _⟩ | ⟨b, off, h4, h5⟩
    · omega
    · cases h4
      exact ⟨g, rfl, h6, fun j v hj => by have := h5 j v hj; rwa [Nat.zero_add] at this⟩
/-- The classes of worlds of a region with one call that makes memory, and one last step that hangs on it. -/
def CallFin (V : Value) (Fin : World → Prop) (wd : World) (H : Nat → Option Value) (w : World) : Prop :=
  (H 0 = none ∧ H 1 = none ∧ w = wd) ∨ (H 0 = some V ∧ H 1 = none ∧ Below wd.heap.size wd w) ∨ (H 0 = some V ∧ H 1 = some undef ∧ Fin w)
theorem CallFin.start (V : Value) (Fin : World → Prop) (wd : World) : CallFin V Fin wd (fun _ => none) wd := .inl ⟨rfl, rfl, rfl⟩
theorem CallFin.ex {V : Value} {Fin : World → Prop} {wd : World} (hx : ∀ w2, Below wd.heap.size wd w2 → ∃ w3, Fin w3) (H : Nat → Option Value) (w : World) (h : CallFin V Fin wd H w) (hn : ∃ s, s < 2 ∧ H s = none) : ∃ s v w', s < 2 ∧ H s = none ∧ CallFin V Fin wd (setP H s v) w' := by
  rcases h with ⟨h0, h1, _⟩ | ⟨h0, h1, h2⟩ | ⟨h0, h1, _⟩
  · exact ⟨0, V, wd, by omega, h0, .inr (.inl ⟨rfl, h1, Below.refl _ _⟩)⟩
  · obtain ⟨w3, h3⟩ := hx w h2
    exact ⟨1, undef, w3, by omega, h1, .inr (.inr ⟨h0, rfl, h3⟩)⟩
  · obtain ⟨s, hs, he⟩ := hn
    match s, hs with
    | 0, _ => rw [h0] at he; cases he
    | 1, _ => rw [h1] at he; cases he
theorem CallFin.at {V : Value} {Fin : World → Prop} {wd : World} {Hf : Nat → Value} {nds : List Nat} {w : World} : clsP (CallFin V Fin wd) Hf nds w → Below wd.heap.size wd w ∨ Fin w := fun ⟨_, _, _, h⟩ => by
  rcases h with ⟨_, _, rfl⟩ | ⟨_, _, h⟩ | ⟨_, _, h⟩
  · exact .inl (Below.refl _ _)
  · exact .inl h
  · exact .inr h
theorem CallFin.done {V : Value} {Fin : World → Prop} {wd w : World} {Hf : Nat → Value} (h : CallFin V Fin wd (fullP 2 Hf) w) : Hf 0 = V ∧ Hf 1 = undef ∧ Fin w := by
  rcases h with ⟨h, _⟩ | ⟨_, h, _⟩ | ⟨h0, h1, h2⟩
  · cases h
  · cases h
  · exact ⟨Option.some.inj h0, Option.some.inj h1, h2⟩
variable {w : World} {root : AT} {col : ByteArray}
set_option maxHeartbeats 4000000 in
set_option maxRecDepth 100000 in
theorem spanof_any (hn : root.nil? = false) (hA : root.At w) (hnd : root.addrs.Nodup) (hF : root.Fit) (hsz : root.size ≤ 20000000) (hE : Env w) : Calls Tryz.prog 29 #[root.ptr, .string col] w (RPost w (bndP col root).val) := by
  generalize hpost : RPost w (bndP col root).val = post
  replace hpost := Lib.hid hpost
  obtain ⟨W1, hW1⟩ : ∃ W1, W1 = w.alloc (.cells #[.int .u8 0, .bool false, .int .i64 0, .string ⟨#[]⟩, .bool false, .int .u8 0, .bool false, .int .i64 0, .string ⟨#[]⟩, .bool false, .bool false] 92) := ⟨_, rfl⟩
  have hs1 : W1.heap.size = w.heap.size + 1 := by rw [hW1]; simp
  have hb1 : Below w.heap.size w W1 := by rw [hW1]; exact (Below.refl _ _).alloc (Nat.le_refl _) _
  have HR : Has W1 w.heap.size [.int .u8 0, .bool false, .int .i64 0, .string ⟨#[]⟩, .bool false, .int .u8 0, .bool false, .int .i64 0, .string ⟨#[]⟩, .bool false, .bool false] 92 := by rw [hW1]; exact Has.new w _ _
  have hA1 := hA.below hb1
  have hE1 := hE.below hb1
  have hlo : ∀ a ∈ root.addrs, a < W1.heap.size := hA1.lt
  have M1 : PM (W1.alloc (.map #[] 0)) (w.heap.size + 1) (fun _ => none) := by rw [← hs1]; exact PM.made W1
  have M2 : PM ((W1.alloc (.map #[] 0)).alloc (.map #[] 0)) (w.heap.size + 1) (fun _ => none) := M1.below ((Below.refl _ _).alloc (Nat.le_refl _) _)
  have M3 : PM ((W1.alloc (.map #[] 0)).alloc (.map #[] 0)) (w.heap.size + 1 + 1) (fun _ => none) := by
    have := PM.made (W1.alloc (.map #[] 0)); rw [World.size_alloc, hs1] at this; exact this
  obtain ⟨W4, hW4⟩ : ∃ W4, W4 = ((W1.alloc (.map #[] 0)).alloc (.map #[] 0)).alloc (.cells #[root.ptr] 24) := ⟨_, rfl⟩
  have hb14 : Below W1.heap.size W1 W4 := by rw [hW4]; exact (((Below.refl _ _).alloc (Nat.le_refl _) _).alloc (by simp) _).alloc (by simp only [World.size_alloc]; omega) _
  have hb34 : Below ((W1.alloc (.map #[] 0)).alloc (.map #[] 0)).heap.size ((W1.alloc (.map #[] 0)).alloc (.map #[] 0)) W4 := by rw [hW4]; exact (Below.refl _ _).alloc (Nat.le_refl _) _
  have HS : Has W4 (w.heap.size + 1 + 1 + 1) [root.ptr] 24 := by
    have := Has.new ((W1.alloc (.map #[] 0)).alloc (.map #[] 0)) [root.ptr] 24; simp only [World.size_alloc, hs1] at this; rw [hW4]; exact this
  have hown : W4.ownsRow 0 24 1 (.slice (some ⟨w.heap.size + 1 + 1 + 1, 0, none⟩) 1 1) 1 [root.ptr] := ⟨rfl, .inr ⟨_, 1, _, rfl, Nat.zero_le _, HS, Nat.le_refl _, by decide, rfl, rfl⟩⟩
  have HI : SpI W1 root col (w.heap.size + 1) (w.heap.size + 1 + 1) [.fr root] (some ⟨w.heap.size + 1 + 1 + 1, 0, none⟩) 1 (fun _ => none) (fun _ => none) W4 :=
    ⟨⟨hA1.below hb14, M2.below hb34, M3.below hb34, hb14, hlo, fun a h => (by cases h), fun a h => (by cases h), by omega⟩, hown, fun k hk => by
      have : k = w.heap.size + 1 + 1 + 1 := (Option.some.inj hk).symm
      omega, StkI.start hn hnd (fun a h => (by cases h)) (fun a h => (by cases h)), fun a v h => (by cases h)⟩
  clear M1 M2 M3 hb34 HS hown hA hA1
  have hmm := @run_makeMap Tryz.prog
  have hpr := AT.ptr_b hn
  rw [hpr] at hW4 ⊢
  replace hpr := Lib.hid hpr
  have hW14 : (((w.alloc (.cells #[.int .u8 0, .bool false, .int .i64 0, .string ⟨#[]⟩, .bool false, .int .u8 0, .bool false, .int .i64 0, .string ⟨#[]⟩, .bool false, .bool false] 92)).alloc (.map #[] 0)).alloc (.map #[] 0)).alloc (.cells #[ptrV root.b] 24) = W4 := by rw [hW4, hW1]
  replace hW14 := Lib.hid hW14
  replace hW1 := Lib.hid hW1
  replace hW4 := Lib.hid hW4
  replace hs1 := Lib.hid hs1
  replace hlo := Lib.hid hlo
  go_enter Tryz.func29, Tryz.ntmps29
  go_wp2_with fail
  rw [hW14.out]
  clear hmm
  go_loopg [7] (wkI [.fr root] + 1) (fun g sv wr => ∃ (its : List It) (sa : Option Addr) (sc : Nat) (mS mB : Nat → Option Value), sv = .slice sa its.length sc ∧ SpI W1 root col (w.heap.size + 1) (w.heap.size + 1 + 1) its sa sc mS mB wr ∧ wkI its < g ∧ wkI its ≤ 40000000)
  case atStart => exact ⟨_, _, _, _, _, rfl, HI, Nat.lt_succ_self _, by simp [wkI, It.wk]; omega⟩
  case round =>
    clear HI
    obtain ⟨its, sa, sc, mS, mB, rfl, hI, hg, hg4⟩ := hrel
    cases its with
    | nil =>
      have hval : mS root.b = some (bndP col root).val := hI.inv.done
      have hlk := lookS hI.m.ms (hI.m.at_.plain root.b (AT.b_mem hn)) false
      rw [hval] at hlk
      simp only [Option.getD_some, Bool.false_eq_true, if_false] at hlk
      have hbr := hI.m.b
      generalize bndP col root = sp at *
      obtain ⟨⟨tl, nl, il, xl, bl⟩, ⟨th, nh, ih, xh, bh⟩, ex⟩ := sp
      dsimp only [Sp.val, Sp.cells, RV.cells, List.cons_append, List.nil_append] at hlk
      have hw1 := hs1.out
      have HR2 := HR.only (Only.of_below hbr) (by omega)
      have hbw := hb1.trans (hbr.mono (by omega))
      clear hI hval HR hb1
      have HR := HR2
      clear HR2
      have cR0 := HR.cell (o := 0) rfl
      have cR1 := HR.cell (o := 1) rfl
      have cR2 := HR.cell (o := 2) rfl
      have cR3 := HR.cell (o := 3) rfl
      have cR4 := HR.cell (o := 4) rfl
      have cR5 := HR.cell (o := 5) rfl
      have cR6 := HR.cell (o := 6) rfl
      have cR7 := HR.cell (o := 7) rfl
      have cR8 := HR.cell (o := 8) rfl
      have cR9 := HR.cell (o := 9) rfl
      have cR10 := HR.cell (o := 10) rfl
      have fR0 := HR.free 0
      have fR1 := HR.free 1
      have fR2 := HR.free 2
      have fR3 := HR.free 3
      have fR4 := HR.free 4
      have fR5 := HR.free 5
      have fR6 := HR.free 6
      have fR7 := HR.free 7
      have fR8 := HR.free 8
      have fR9 := HR.free 9
      have fR10 := HR.free 10
      obtain ⟨W1, hW1⟩ : ∃ W1, W1 = ((((((((((wr.setCell ⟨w.heap.size, 0, none⟩ (.int .u8 (tl : Int))).setCell ⟨w.heap.size, 1, none⟩ (.bool nl)).setCell ⟨w.heap.size, 2, none⟩ (.int .i64 il)).setCell ⟨w.heap.size, 3, none⟩ (.string xl)).setCell ⟨w.heap.size, 4, none⟩ (.bool bl)).setCell ⟨w.heap.size, 5, none⟩ (.int .u8 (th : Int))).setCell ⟨w.heap.size, 6, none⟩ (.bool nh)).setCell ⟨w.heap.size, 7, none⟩ (.int .i64 ih)).setCell ⟨w.heap.size, 8, none⟩ (.string xh)).setCell ⟨w.heap.size, 9, none⟩ (.bool bh)).setCell ⟨w.heap.size, 10, none⟩ (.bool ex) := ⟨_, rfl⟩
      replace HR : Has W1 (w.heap.size) [.int .u8 (tl : Int), .bool nl, .int .i64 il, .string xl, .bool bl, .int .u8 (th : Int), .bool nh, .int .i64 ih, .string xh, .bool bh, .bool ex] 92 := by rw [hW1]; exact (((((((((((HR.set 0 (.int .u8 (tl : Int))).set 1 (.bool nl)).set 2 (.int .i64 il)).set 3 (.string xl)).set 4 (.bool bl)).set 5 (.int .u8 (th : Int))).set 6 (.bool nh)).set 7 (.int .i64 ih)).set 8 (.string xh)).set 9 (.bool bh)).set 10 (.bool ex))
      have hbW1 : Below w.heap.size w W1 := by rw [hW1]; exact (((((((((((hbw.setCell (p := ⟨w.heap.size, 0, none⟩) (by first | exact Nat.le_refl _ | (simp; omega) | omega) _).setCell (p := ⟨w.heap.size, 1, none⟩) (by first | exact Nat.le_refl _ | (simp; omega) | omega) _).setCell (p := ⟨w.heap.size, 2, none⟩) (by first | exact Nat.le_refl _ | (simp; omega) | omega) _).setCell (p := ⟨w.heap.size, 3, none⟩) (by first | exact Nat.le_refl _ | (simp; omega) | omega) _).setCell (p := ⟨w.heap.size, 4, none⟩) (by first | exact Nat.le_refl _ | (simp; omega) | omega) _).setCell (p := ⟨w.heap.size, 5, none⟩) (by first | exact Nat.le_refl _ | (simp; omega) | omega) _).setCell (p := ⟨w.heap.size, 6, none⟩) (by first | exact Nat.le_refl _ | (simp; omega) | omega) _).setCell (p := ⟨w.heap.size, 7, none⟩) (by first | exact Nat.le_refl _ | (simp; omega) | omega) _).setCell (p := ⟨w.heap.size, 8, none⟩) (by first | exact Nat.le_refl _ | (simp; omega) | omega) _).setCell (p := ⟨w.heap.size, 9, none⟩) (by first | exact Nat.le_refl _ | (simp; omega) | omega) _).setCell (p := ⟨w.heap.size, 10, none⟩) (by first | exact Nat.le_refl _ | (simp; omega) | omega) _)
      have hzW1 : W1.heap.size = wr.heap.size := by rw [hW1]; simp
      replace hW1 := Lib.hid hW1
      have hf : post (.returned (.agg #[.int .u8 (tl : Int), .bool nl, .int .i64 il, .string xl, .bool bl, .int .u8 (th : Int), .bool nh, .int .i64 ih, .string xh, .bool bh, .bool ex])) W1 := by rw [← hpost.out]; exact ⟨rfl, hbW1⟩
      replace hf := Lib.hid hf
      clear hw1
      have r0 := Lib.hid (HR.cell (o := 0) rfl)
      have r1 := Lib.hid (HR.cell (o := 1) rfl)
      have r2 := Lib.hid (HR.cell (o := 2) rfl)
      have r3 := Lib.hid (HR.cell (o := 3) rfl)
      have r4 := Lib.hid (HR.cell (o := 4) rfl)
      have r5 := Lib.hid (HR.cell (o := 5) rfl)
      have r6 := Lib.hid (HR.cell (o := 6) rfl)
      have r7 := Lib.hid (HR.cell (o := 7) rfl)
      have r8 := Lib.hid (HR.cell (o := 8) rfl)
      have r9 := Lib.hid (HR.cell (o := 9) rfl)
      have r10 := Lib.hid (HR.cell (o := 10) rfl)
      replace hzW1 := Lib.hid hzW1
      go_wp2_with fail
      rw [show ((((((((((wr.setCell ⟨w.heap.size, 0, none⟩ (.int .u8 (tl : Int))).setCell ⟨w.heap.size, 1, none⟩ (.bool nl)).setCell ⟨w.heap.size, 2, none⟩ (.int .i64 il)).setCell ⟨w.heap.size, 3, none⟩ (.string xl)).setCell ⟨w.heap.size, 4, none⟩ (.bool bl)).setCell ⟨w.heap.size, 5, none⟩ (.int .u8 (th : Int))).setCell ⟨w.heap.size, 6, none⟩ (.bool nh)).setCell ⟨w.heap.size, 7, none⟩ (.int .i64 ih)).setCell ⟨w.heap.size, 8, none⟩ (.string xh)).setCell ⟨w.heap.size, 9, none⟩ (.bool bh)).setCell ⟨w.heap.size, 10, none⟩ (.bool ex) = W1 from hW1.out.symm]
      exact bodyPost_ret (v := .agg #[.int .u8 (tl : Int), .bool nl, .int .i64 il, .string xl, .bool bl, .int .u8 (th : Int), .bool nh, .int .i64 ih, .string xh, .bool bh, .bool ex]) (by simp [results, Tryz.results29, go_sem, r0.out, r1.out, r2.out, r3.out, r4.out, r5.out, r6.out, r7.out, r8.out, r9.out, r10.out]) rfl hf.out
    | cons it s =>
      have hsub := hI.inv.sub it (by simp)
      obtain ⟨t, ht⟩ : ∃ t, it.tree = t := ⟨_, rfl⟩
      rw [ht] at hsub
      obtain ⟨hsub, hnt⟩ := hsub
      cases t with
      | nil => cases hnt
      | node b op cc v l r =>
        have hAt : Has wr b (exCells op l.ptr r.ptr cc v) 46 ∧ l.At wr ∧ r.At wr := hsub.at hI.m.at_
        have hFt : (AT.node b op cc v l r).Fit := hsub.fit hF
        have hbm : b ∈ root.addrs := hsub.addrs b (by simp [AT.addrs])
        have hnS : mS b = none := by
          cases it with
          | fr u =>
            have h := hI.inv.top_fr.1
            rw [show u = _ from ht] at h
            cases hm : mS b with
            | none => rfl
            | some x => exact absurd (by rw [show (AT.node b op cc v l r).b = b from rfl, hm]; rfl) h
          | wt u =>
            have h := hI.inv.top_wt.2.1
            rw [show u = _ from ht] at h
            cases hm : mS b with
            | none => rfl
            | some x => exact absurd (by rw [show (AT.node b op cc v l r).b = b from rfl, hm]; rfl) h
        obtain ⟨g, rfl, hcap, hcell⟩ := own_some hI.own
        have hc0 : wr.cell? ⟨g, s.length, none⟩ = some (ptrV b) := hcell s.length _ (by
          rw [List.reverse_cons, List.map_append, List.getElem?_append_right (by simp)]
          simp [ht, AT.ptr])
        have hl1 := lookS hI.m.ms (hI.m.at_.plain b hbm) true
        rw [hnS] at hl1
        simp only [Option.getD_none, Option.isSome_none, if_true] at hl1
        obtain ⟨wa, hwa⟩ : ∃ wa, wa = wr.alloc (.cells #[.int .u8 0, .bool false, .int .i64 0, .string ⟨#[]⟩, .bool false, .int .u8 0, .bool false, .int .i64 0, .string ⟨#[]⟩, .bool false, .bool false] 92) := ⟨_, rfl⟩
        have hba : Below wr.heap.size wr wa := by rw [hwa]; exact (Below.refl _ _).alloc (Nat.le_refl _) _
        have hMa := hI.m.below hba
        have hip := ispair_any b op cc v l r wa (hAt.1.only (Only.of_below hba) (Nat.not_le.2 hAt.1.lt))
        have hl2 := lookB hMa.mb (hMa.at_.plain b hbm) false
        simp only [Bool.false_eq_true, if_false] at hl2
        have q1 : decide ((0 : Int) < (s.length : Int) + 1) = true := decide_eq_true (by omega)
        have q2 : (0 : Int) ≤ (s.length : Int) := by omega
        have q3 : (s.length : Int) < (s.length : Int) + 1 := by omega
        have q4 : (s.length : Int) + 1 ≤ 40000000 := by
          have := len_wk (fun x hx => (hI.inv.sub x hx).2); simp only [List.length_cons] at this; omega
        replace hwa := Lib.hid hwa
        replace hip := Lib.hid hip
        replace hl2 := Lib.hid hl2
        replace hI := Lib.hid hI
        replace hnS := Lib.hid hnS
        replace hAt := Lib.hid hAt
        replace ht := Lib.hid ht
        clear hcell
        have hwk : wkI (it :: s) = it.wk + wkI s := by simp [wkI]
        by_cases hpair : pairB op l r = true
        · have hpk := hpair
          unfold pairB at hpk
          simp only [Bool.and_eq_true, Bool.not_eq_true'] at hpk
          obtain ⟨bl, hbl⟩ := ptr_some hpk.1.2
          obtain ⟨br, hbr⟩ := ptr_some hpk.2
          rw [hpair] at hip
          cases it with
          | fr u =>
            obtain rfl : u = _ := ht.out
            have hBn : mB b = none := by
              have h := hI.out.inv.top_fr.2.1
              cases hm : mB b with
              | none => rfl
              | some x => exact absurd (by rw [show (AT.node b op cc v l r).b = b from rfl, hm]; rfl) h
            have hl2 := hl2.out
            rw [hBn] at hl2
            simp only [Option.getD_none] at hl2
            obtain ⟨w3, hr3, M3, O3⟩ := hMa.putB hbm (.bool true)
            have hAt3 := (hsub.at M3.at_).1
            have d1 := hAt3.cell (o := 1) rfl
            have d2 := hAt3.cell (o := 2) rfl
            rw [hbl] at d1
            rw [hbr] at d2
            replace hip := Lib.hid hip
            replace hr3 := Lib.hid hr3
            replace M3 := Lib.hid M3
            replace O3 := Lib.hid O3
            replace hBn := Lib.hid hBn
            replace hwk := Lib.hid hwk
            replace hbl := Lib.hid hbl
            replace hbr := Lib.hid hbr
            replace hAt3 := Lib.hid hAt3
            replace hpk := Lib.hid hpk
            replace hpair := Lib.hid hpair
            go_wp2_with fail
            rw [← hwa.out]
            refine hip.out.mono ?_
            rintro e w1' ⟨rfl, rfl⟩
            have hgl : g < wr.heap.size := by simpa using World.block_lt_of_cell? _ _ hc0
            clear hl1 hc0
            go_upto_region 11 with (refine wpList_updateM rfl (.tmp 48) (.tmp 49) _ 112 rfl hr3.out ?_)
            clear hl2
            simp only [Act.put]
            obtain ⟨w4, hw4⟩ : ∃ w4, w4 = (w3.alloc (.cells #[.pointer (some ⟨br, 0, none⟩), .pointer (some ⟨bl, 0, none⟩)] 24)).drew := ⟨_, rfl⟩
            replace hw4 := Lib.hid hw4
            go_cut [58, 59, 60] (fun p q i wx => p = .slice (some ⟨w3.heap.size, 0, none⟩) 2 2 ∧ q = .int .i64 2 ∧ i = .int .i64 0 ∧ w4 = wx)
            case first =>
              go_region
              all_goals
                go_wp2_with fail
                go_meet
                exact ⟨rfl, rfl, rfl, hw4.out⟩
            case rest =>
              obtain ⟨rfl, rfl, rfl, rfl⟩ := hcut
              have hz3 := M3.out.b.size
              have hb34 : Below w3.heap.size w3 w4 := by rw [hw4.out]; exact ((Below.refl _ _).alloc (Nat.le_refl _) _).drew
              have HL : Has w4 w3.heap.size [ptrV br, ptrV bl] 24 := by rw [hw4.out]; exact Has.new w3 [ptrV br, ptrV bl] 24
              have M4 := M3.out.below hb34
              have hO4 : Only (fun k => k = w.heap.size + 1 + 1) wr w4 := (((Only.of_below hba).mono (fun k hk h => absurd h (Nat.not_le.2 hk))).trans O3.out).trans ((Only.of_below hb34).mono (fun k hk h => absurd h (Nat.not_le.2 hk)))
              have hob := hI.out.ob g rfl
              have own4 := ownsRow_only hI.out.own hO4 (fun k hk e => by
                have hk2 : g = k := Option.some.inj hk
                rw [← hk2] at e; exact hob.2.2 e)
              have hg3 : g < w3.heap.size := by have := hba.size; have := O3.out.size; omega
              have el : l.b = bl := by have := AT.ptr_b (by rw [nil_isNil]; exact hpk.out.1.2 : l.nil? = false); rw [hbl.out] at this; cases this; rfl
              have er : r.b = br := by have := AT.ptr_b (by rw [nil_isNil]; exact hpk.out.2 : r.nil? = false); rw [hbr.out] at this; cases this; rfl
              have hnd2 : (AT.node b op cc v l r).addrs.Nodup := (List.nodup_append.1 (show ((AT.node b op cc v l r).addrs ++ flatI s).Nodup from hI.out.inv.nd)).1
              have hkid : ∀ c : AT, c.nil? = false → (∀ a ∈ c.addrs, a ∈ l.addrs ∨ a ∈ r.addrs) → mS c.b = none ∧ (setM mB b (.bool true)) c.b = none ∧ c.b ∈ root.addrs := fun c hc hs => by
                have h1 := hI.out.inv.top_fr.2.2 c (fun a ha => by rcases hs a ha with h | h <;> simp [AT.addrs, h]) hc
                have h2 : c.b ≠ b := fun e => by
                  have h3 := hs c.b (AT.b_mem hc)
                  rw [e] at h3
                  have h4 := (List.nodup_cons.1 hnd2).1
                  exact h4 (List.mem_append.2 h3)
                refine ⟨?_, ?_, hsub.addrs _ (by rcases hs c.b (AT.b_mem hc) with h | h <;> simp [AT.addrs, h])⟩
                · cases hm : mS c.b with
                  | none => rfl
                  | some x => exact absurd (by rw [hm]; rfl) h1.1
                · rw [setM_ne _ _ h2]
                  cases hm : mB c.b with
                  | none => rfl
                  | some x => exact absurd (by rw [hm]; rfl) h1.2
              have hkl := hkid l (by rw [nil_isNil]; exact hpk.out.1.2) (fun a ha => .inl ha)
              have hkr := hkid r (by rw [nil_isNil]; exact hpk.out.2) (fun a ha => .inr ha)
              rw [el] at hkl
              rw [er] at hkr
              have hlk : ∀ (wx : World) (i : Nat) (o : Nat), (i = 0 ∧ o = br ∨ i = 1 ∧ o = bl) → SpM W1 root (w.heap.size + 1) (w.heap.size + 1 + 1) mS (setM mB b (.bool true)) wx → (Instr.lookup 131 (.map (some (w.heap.size + 1))) (ptrV o) true).run Tryz.prog wx = .ok (.tuple #[spZ, .bool false]) wx ∧ (Instr.lookup 112 (.map (some (w.heap.size + 1 + 1))) (ptrV o) false).run Tryz.prog wx = .ok (.bool false) wx := fun wx i o ho M => by
                have hk : mS o = none ∧ (setM mB b (.bool true)) o = none ∧ o ∈ root.addrs := by rcases ho with ⟨_, rfl⟩ | ⟨_, rfl⟩ <;> assumption
                have h1 := lookS M.ms (M.at_.plain o hk.2.2) true
                have h2 := lookB M.mb (M.at_.plain o hk.2.2) false
                rw [hk.1] at h1
                rw [hk.2.1] at h2
                exact ⟨by simpa using h1, by simpa using h2⟩
              have hown4 : w4.ownsRow 0 24 1 (.slice (some ⟨g, 0, none⟩) (s.length + 1 + 0) sc) (s.length + 1 + 0) (((s.reverse.map fun it => it.tree.ptr) ++ [ptrV b]) ++ [ptrV br, ptrV bl].take 0) := by
                rw [List.reverse_cons, List.map_append] at own4
                simpa [It.tree, AT.ptr] using own4
              have hlenL : ((s.reverse.map fun it => it.tree.ptr) ++ [ptrV b]).length = s.length + 1 := by simp
              obtain ⟨Ls, hLs⟩ : ∃ Ls, (s.reverse.map fun it => it.tree.ptr) ++ [ptrV b] = Ls := ⟨_, rfl⟩
              rw [hLs] at hown4 hlenL
              have hgb : w.heap.size + 1 ≤ g ∧ g ≠ w3.heap.size := ⟨by have := hob.1; have := hs1.out; omega, by omega⟩
              replace hLs := Lib.hid hLs
              replace hlenL := Lib.hid hlenL
              replace hlk := Lib.hid hlk
              replace hkid := Lib.hid hkid
              replace hkl := Lib.hid hkl
              replace hkr := Lib.hid hkr
              replace el := Lib.hid el
              replace er := Lib.hid er
              replace hob := Lib.hid hob
              replace hgb := Lib.hid hgb
              replace hs1' := Lib.hid hs1.out
              clear d1 d2 hO4 own4 hb34 hnd2 hMa hba
              go_wp2_with fail
              go_loopw [7, 60] (fun sv iv wq => ∃ (i : Nat) (sa' : Option Addr) (sc' : Nat), i ≤ 2 ∧ iv = .int .i64 (i : Int) ∧ sv = .slice sa' (s.length + 1 + i) sc' ∧ SpM W1 root (w.heap.size + 1) (w.heap.size + 1 + 1) mS (setM mB b (.bool true)) wq ∧ wq.ownsRow 0 24 1 (.slice sa' (s.length + 1 + i) sc') (s.length + 1 + i) (Ls ++ [ptrV br, ptrV bl].take i) ∧
                (∀ k, Value.ownBlock (.slice sa' (s.length + 1 + i) sc') = some k → W1.heap.size ≤ k ∧ k ≠ w.heap.size + 1 ∧ k ≠ w.heap.size + 1 + 1 ∧ k ≠ w3.heap.size) ∧ Has wq w3.heap.size [ptrV br, ptrV bl] 24) (fun _ iv _ => 2 - (intOf iv).toNat)
              case atStart => exact ⟨0, _, sc, by omega, rfl, rfl, M4, hown4, fun k hk => by
                have hk2 : g = k := Option.some.inj hk
                rw [← hk2]; exact ⟨hob.out.1, hob.out.2.1, hob.out.2.2, hgb.out.2⟩, HL⟩
              case round =>
                obtain ⟨i, sa', sc', hi2, rfl, rfl, hM, hown, hob2, hL⟩ := hrel
                by_cases hlt : i < 2
                · obtain ⟨o, ho, hget⟩ : ∃ o, (i = 0 ∧ o = br ∨ i = 1 ∧ o = bl) ∧ [ptrV br, ptrV bl][i]? = some (ptrV o) := by
                    have : i = 0 ∨ i = 1 := by omega
                    rcases this with rfl | rfl
                    · exact ⟨br, .inl ⟨rfl, rfl⟩, rfl⟩
                    · exact ⟨bl, .inr ⟨rfl, rfl⟩, rfl⟩
                  have cL := hL.cell hget
                  have hk1 := (hlk.out wr i o ho hM).1
                  obtain ⟨wb, hwb⟩ : ∃ wb, wb = wr.alloc (.cells #[.int .u8 0, .bool false, .int .i64 0, .string ⟨#[]⟩, .bool false, .int .u8 0, .bool false, .int .i64 0, .string ⟨#[]⟩, .bool false, .bool false] 92) := ⟨_, rfl⟩
                  have hbb : Below wr.heap.size wr wb := by rw [hwb]; exact (Below.refl _ _).alloc (Nat.le_refl _) _
                  have hMb := hM.below hbb
                  have hk2 := (hlk.out wb i o ho hMb).2
                  have hownb := ownsRow_only hown (Only.of_below hbb) (fun k hk e => by have := ownsRow_lt hown hk; omega)
                  have hLb := hL.only (Only.of_below hbb) (Nat.not_le.2 hL.lt)
                  have hzb : wb.heap.size = wr.heap.size + 1 := by rw [hwb]; simp
                  rw [hwb] at hk2
                  have i0 : (0 : Int) ≤ (i : Int) := by omega
                  have i2 : (i : Int) < 2 := by omega
                  have id : decide ((i : Int) < 2) = true := decide_eq_true i2
                  have htake : [ptrV br, ptrV bl].take (i + 1) = [ptrV br, ptrV bl].take i ++ [ptrV o] := by
                    rw [List.take_add_one, hget]; rfl
                  have hby : (s.length + 1 + i + 1) * 8 ≤ 140737488355328 := by omega
                  have hnx : ∀ sa2 sc2 w5, w5.ownsRow 0 24 1 (.slice sa2 (s.length + 1 + i + 1) sc2) (s.length + 1 + i + 1) ((Ls ++ [ptrV br, ptrV bl].take i) ++ [ptrV o]) → Only (fun k => Value.ownBlock (.slice sa' (s.length + 1 + i) sc') = some k) wb w5 →
                      (∀ k, Value.ownBlock (.slice sa2 (s.length + 1 + i + 1) sc2) = some k → Value.ownBlock (.slice sa' (s.length + 1 + i) sc') = some k ∨ wb.heap.size ≤ k) →
                      ∃ (i' : Nat) (sa' : Option Addr) (sc' : Nat), i' ≤ 2 ∧ Value.int .i64 ((i : Int) + 1) = .int .i64 (i' : Int) ∧ Value.slice sa2 (s.length + 1 + i + 1) sc2 = .slice sa' (s.length + 1 + i') sc' ∧ SpM W1 root (w.heap.size + 1) (w.heap.size + 1 + 1) mS (setM mB b (.bool true)) w5 ∧ w5.ownsRow 0 24 1 (.slice sa' (s.length + 1 + i') sc') (s.length + 1 + i') (Ls ++ [ptrV br, ptrV bl].take i') ∧
                        (∀ k, Value.ownBlock (.slice sa' (s.length + 1 + i') sc') = some k → W1.heap.size ≤ k ∧ k ≠ w.heap.size + 1 ∧ k ≠ w.heap.size + 1 + 1 ∧ k ≠ w3.heap.size) ∧ Has w5 w3.heap.size [ptrV br, ptrV bl] 24 := fun sa2 sc2 w5 own2 only2 fresh2 => by
                    refine ⟨i + 1, sa2, sc2, by omega, rfl, rfl, hMb.only only2 (fun k hk hs => ?_), ?_, fun k hk => ?_, hLb.only only2 (fun hs => ?_)⟩
                    · obtain ⟨g1, g2, g3, _⟩ := hob2 k hs
                      exact ⟨g1, g2, g3⟩
                    · rw [htake, ← List.append_assoc]; exact own2
                    · rcases fresh2 k hk with h | h
                      · exact hob2 k h
                      · have h1 := hMb.b.size
                        have h2 := hMb.ms.lt
                        have h3 := hMb.mb.lt
                        have h4 := hLb.lt
                        omega
                    · exact (hob2 _ hs).2.2.2 rfl
                  replace hnx := Lib.hid hnx
                  replace hwb := Lib.hid hwb
                  replace hzb := Lib.hid hzb
                  replace htake := Lib.hid htake
                  clear hM hown hob2 hL hLb hMb hbb ho hget
                  go_wp2_with (at_builtin; refine wpList_app1 rfl (.tmp 80) (.tmp 82) 113 rfl 24 (.pointer none) 8 Tryz.underlying113 infoPEx rfl (by decide) sa' (s.length + 1 + i) sc' (Ls ++ [ptrV br, ptrV bl].take i) rfl (ptrV o) _ wb (by rw [hwb.out]) rfl hownb _ rfl (by rw [hwb.out]; simp) rfl hby ?_)
                  intro sa2 sc2 w5 own2 only2 fresh2
                  have hfin := Lib.hid (hnx.out sa2 sc2 w5 (by rw [List.append_assoc]; exact own2) only2 fresh2)
                  clear own2 only2 fresh2 hk1 hk2 hownb cL
                  go_wp2_with fail
                  exact ⟨hfin.out, by simp [intOf]; omega⟩
                · obtain rfl : i = 2 := by omega
                  have id : decide (((2 : Nat) : Int) < 2) = false := by decide
                  have hI5 : SpI W1 root col (w.heap.size + 1) (w.heap.size + 1 + 1) (.fr l :: .fr r :: .wt (.node b op cc v l r) :: s) sa' sc' mS (setM mB b (.bool true)) wr := by
                    refine hI.out.exp hpair.out hM ?_ (fun k hk => ?_)
                    · have h := hown
                      rw [← hLs.out] at h
                      rw [hbl.out, hbr.out]
                      simpa using h
                    · obtain ⟨g1, g2, g3, _⟩ := hob2 k hk
                      exact ⟨g1, g2, g3⟩
                  have hw5 : wkI (.fr l :: .fr r :: .wt (.node b op cc v l r) :: s) + 1 < gk ∧ wkI (.fr l :: .fr r :: .wt (.node b op cc v l r) :: s) ≤ 40000000 := by
                    have h1 := hwk.out
                    have h2 : It.wk (.fr (.node b op cc v l r)) = 2 * (l.size + r.size + 1) := rfl
                    have h3 : wkI (.fr l :: .fr r :: .wt (.node b op cc v l r) :: s) = 2 * l.size + (2 * r.size + (1 + wkI s)) := by simp [wkI, It.wk]
                    omega
                  replace hI5 := Lib.hid hI5
                  replace hw5 := Lib.hid hw5
                  clear hM hown hob2 hL
                  go_wp2_with fail
                  go_roundg (wkI (.fr l :: .fr r :: .wt (.node b op cc v l r) :: s) + 1)
                  case measure => exact hw5.out.1
                  case rel => exact ⟨_, sa', sc', mS, _, rfl, hI5.out, Nat.lt_succ_self _, hw5.out.2⟩
          | wt u =>
            obtain rfl : u = _ := ht.out
            have hBt : mB b = some (.bool true) := by
              have h := hI.out.inv.top_wt.1
              cases hm : mB b with
              | none => rw [show (AT.node b op cc v l r).b = b from rfl, hm] at h; cases h
              | some x => rw [hI.out.vB b x hm]
            have hl2 := hl2.out
            rw [hBt] at hl2
            simp only [Option.getD_some] at hl2
            have el : l.b = bl := by have := AT.ptr_b (by rw [nil_isNil]; exact hpk.1.2 : l.nil? = false); rw [hbl] at this; cases this; rfl
            have er : r.b = br := by have := AT.ptr_b (by rw [nil_isNil]; exact hpk.2 : r.nil? = false); rw [hbr] at this; cases this; rfl
            have hkids : kidsS (.node b op cc v l r) = [l, r] := by rw [kidsS_node, if_pos hpair]
            have hvl : mS bl = some (bndP col l).val := by rw [← el]; exact hI.out.inv.top_wt.2.2 l (by rw [hkids]; simp)
            have hvr : mS br = some (bndP col r).val := by rw [← er]; exact hI.out.inv.top_wt.2.2 r (by rw [hkids]; simp)
            have hml : bl ∈ root.addrs := by rw [← el]; exact hsub.addrs _ (by have := AT.b_mem (by rw [nil_isNil]; exact hpk.1.2 : l.nil? = false); simp [AT.addrs, this])
            have hmr : br ∈ root.addrs := by rw [← er]; exact hsub.addrs _ (by have := AT.b_mem (by rw [nil_isNil]; exact hpk.2 : r.nil? = false); simp [AT.addrs, this])
            obtain ⟨wd, hwd⟩ : ∃ wd, wd = wa.drew := ⟨_, rfl⟩
            have hbd : Below wa.heap.size wa wd := by rw [hwd]; exact (Below.refl _ _).drew
            have hMd := hMa.below hbd
            have hkl := lookS hMd.ms (hMd.at_.plain bl hml) false
            have hkr := lookS hMd.ms (hMd.at_.plain br hmr) false
            rw [hvl] at hkl
            rw [hvr] at hkr
            simp only [Option.getD_some, Bool.false_eq_true, if_false] at hkl hkr
            have hAa := (hsub.at hMa.at_).1
            have d0 := hAa.cell (o := 0) rfl
            have d1 := hAa.cell (o := 1) rfl
            have d2 := hAa.cell (o := 2) rfl
            rw [hbl] at d1
            rw [hbr] at d2
            have hbdl := bndP.bd col hFt.2.2.2.2.1
            have hbdr := bndP.bd col hFt.2.2.2.2.2
            have hEd := (hE1.below hMd.b)
            have hbo := both_any _ _ hbdl hbdr wd hEd
            have hei := either_any _ _ hbdl hbdr wd hEd
            have hval : bndP col (.node b op cc v l r) = if op = 1 then bothP (bndP col l) (bndP col r) else eitherP (bndP col l) (bndP col r) := by rw [bndP.eq_2, if_pos hpair]
            have hgl : g < wr.heap.size := by simpa using World.block_lt_of_cell? _ _ hc0
            have hnx : ∀ w2, Below wd.heap.size wd w2 → ∃ w3, (Instr.mapUpdate 131 (.map (some (w.heap.size + 1))) (ptrV b) (bndP col (.node b op cc v l r)).val).run Tryz.prog w2 = .ok () w3 ∧ SpI W1 root col (w.heap.size + 1) (w.heap.size + 1 + 1) s (some ⟨g, 0, none⟩) sc (setM mS b (bndP col (.node b op cc v l r)).val) mB w3 := fun w2 hb2 => by
              obtain ⟨w3, hr3, M3, O3⟩ := (hMd.below hb2).putS hbm (bndP col (.node b op cc v l r)).val
              have hO : Only (fun k => k = w.heap.size + 1) wr w3 := ((((Only.of_below hba).mono (fun k hk h => absurd h (Nat.not_le.2 hk))).trans ((Only.of_below hbd).mono (fun k hk h => absurd h (Nat.not_le.2 hk)))).trans ((Only.of_below hb2).mono (fun k hk h => absurd h (Nat.not_le.2 hk)))).trans O3
              exact ⟨w3, hr3, hI.out.fin (it := .wt (.node b op cc v l r)) (w' := w3) (S := fun k => k = w.heap.size + 1) hnS.out M3 hO (fun e => (hI.out.ob g rfl).2.1 e)⟩
            have hwk2 : wkI s + 1 < gk ∧ wkI s ≤ 40000000 := by
              have h2 : It.wk (.wt (.node b op cc v l r)) = 1 := rfl
              omega
            have ho12 : op = 1 ∨ op = 2 := by simpa using hpk.1.1
            rw [hwd] at hkl hkr
            replace hip := Lib.hid hip
            replace hwd := Lib.hid hwd
            replace hnx := Lib.hid hnx
            replace hwk := Lib.hid hwk
            replace hwk2 := Lib.hid hwk2
            replace hbo := Lib.hid hbo
            replace hei := Lib.hid hei
            replace hval := Lib.hid hval
            replace hkids := Lib.hid hkids
            replace el := Lib.hid el
            replace er := Lib.hid er
            replace hvl := Lib.hid hvl
            replace hvr := Lib.hid hvr
            replace hpk := Lib.hid hpk
            replace hpair := Lib.hid hpair
            replace hbl := Lib.hid hbl
            replace hbr := Lib.hid hbr
            replace hBt := Lib.hid hBt
            replace hAa := Lib.hid hAa
            have hne : bl ≠ b ∧ br ≠ b := ⟨(fun e => by rw [e, hnS.out] at hvl; cases hvl), (fun e => by rw [e, hnS.out] at hvr; cases hvr)⟩
            have hrd : ∀ wx, (Below wd.heap.size wd wx ∨ SpI W1 root col (w.heap.size + 1) (w.heap.size + 1 + 1) s (some ⟨g, 0, none⟩) sc (setM mS b (bndP col (.node b op cc v l r)).val) mB wx) → wx.cell? ⟨b, 1, none⟩ = some (ptrV bl) ∧ wx.cell? ⟨b, 2, none⟩ = some (ptrV br) ∧
                (Instr.lookup 131 (.map (some (w.heap.size + 1))) (ptrV bl) false).run Tryz.prog wx = .ok (bndP col l).val wx ∧ (Instr.lookup 131 (.map (some (w.heap.size + 1))) (ptrV br) false).run Tryz.prog wx = .ok (bndP col r).val wx := fun wx hx => by
              obtain ⟨m', M', hm1, hm2⟩ : ∃ m', SpM W1 root (w.heap.size + 1) (w.heap.size + 1 + 1) m' mB wx ∧ m' bl = some (bndP col l).val ∧ m' br = some (bndP col r).val := by
                rcases hx with hx | hx
                · exact ⟨mS, hMd.below hx, hvl.out, hvr.out⟩
                · exact ⟨_, hx.m, by rw [setM_ne _ _ hne.1]; exact hvl.out, by rw [setM_ne _ _ hne.2]; exact hvr.out⟩
              have hA' := (hsub.at M'.at_).1
              have hA' : Has wx b (exCells op l.ptr r.ptr cc v) 46 := hA'
              have h1 := lookS M'.ms (M'.at_.plain bl hml) false
              have h2 := lookS M'.ms (M'.at_.plain br hmr) false
              rw [hm1] at h1
              rw [hm2] at h2
              refine ⟨?_, ?_, by simpa using h1, by simpa using h2⟩
              · have h := hA'.cell (o := 1) rfl; rw [hbl.out] at h; exact h
              · have h := hA'.cell (o := 2) rfl; rw [hbr.out] at h; exact h
            replace hrd := Lib.hid hrd
            clear hMa hMd hba hbd hbdl hbdr hEd hkl hkr d1 d2
            rcases ho12 with rfl | rfl
            · have q5 : (((1 : Nat) : Int) == 1) = true := rfl
              have hval2 := hval.out
              rw [if_pos rfl] at hval2
              rw [hval2] at hnx hrd
              obtain ⟨vl, hvl'⟩ : ∃ vl, (bndP col l).val = vl := ⟨_, rfl⟩
              obtain ⟨vr, hvr'⟩ : ∃ vr, (bndP col r).val = vr := ⟨_, rfl⟩
              obtain ⟨vv, hvv'⟩ : ∃ vv, (bothP (bndP col l) (bndP col r)).val = vv := ⟨_, rfl⟩
              rw [hvl', hvr', hvv'] at hbo
              rw [hvl', hvr', hvv'] at hrd
              rw [hvv'] at hnx
              replace hvl' := Lib.hid hvl'
              replace hvr' := Lib.hid hvr'
              replace hvv' := Lib.hid hvv'
              replace hval2 := Lib.hid hval2
              go_wp2_with fail
              rw [← hwa.out]
              refine hip.out.mono ?_
              rintro e w1' ⟨rfl, rfl⟩
              clear hl1 hc0
              go_wp2_with fail
              refine hip.out.mono ?_
              rintro e w1' ⟨rfl, rfl⟩
              clear hl2
              go_wp2_with fail
              refine wp_region_part [14, 15] [[], [0]] [] (CallFin vv (fun wx => SpI W1 root col (w.heap.size + 1) (w.heap.size + 1 + 1) s (some ⟨g, 0, none⟩) sc (setM mS b vv) mB wx) wd) (by kernel_rfl) (by kernel_rfl) (by kernel_rfl) (by rw [← hwd.out]; exact CallFin.start _ _ _) (CallFin.ex (fun w2 hb2 => by
                obtain ⟨w3, _, h3⟩ := hnx.out w2 hb2
                exact ⟨w3, h3⟩)) (fun Hf hx => ?_)
              obtain ⟨w', hx⟩ := hx
              obtain ⟨v0e, v1e, _⟩ := hx.done
              clear d0
              have hrd2 : ∀ {nds : List Nat} {wx : World}, clsP (CallFin vv (fun wx => SpI W1 root col (w.heap.size + 1) (w.heap.size + 1 + 1) s (some ⟨g, 0, none⟩) sc (setM mS b vv) mB wx) wd) Hf nds wx → _ := fun {nds} {wx} h => hrd.out wx (CallFin.at h)
              refine part_chunk [] 14 0 _ _ (by kernel_rfl) (by kernel_rfl) (by decide) ?_
              simp only [List.take_succ_cons, List.take_zero, List.drop_succ_cons, List.drop_zero]
              iterate 6 (go_big_quiet_want; go_big_quiet_op; first | go_big_quiet_on | (refine ⟨_, fun _ _ => rfl, ?_⟩; go_big_quiet_on))
              go_big_quiet_want
              go_big_quiet_op
              refine ⟨ptrV bl, fun wx hx => by simp [go_sem, (hrd2 hx).1], ?_⟩
              go_big_quiet_on
              go_big_quiet_want
              go_big_quiet_op
              refine ⟨vl, fun wx hx => by simp [go_sem, (hrd2 hx).2.2.1], ?_⟩
              go_big_quiet_on
              iterate 4 (go_big_quiet_want; go_big_quiet_op; first | go_big_quiet_on | (refine ⟨_, fun _ _ => rfl, ?_⟩; go_big_quiet_on))
              go_big_quiet_want
              go_big_quiet_op
              refine ⟨ptrV br, fun wx hx => by simp [go_sem, (hrd2 hx).2.1], ?_⟩
              go_big_quiet_on
              go_big_quiet_want
              go_big_quiet_op
              refine ⟨vr, fun wx hx => by simp [go_sem, (hrd2 hx).2.2.2], ?_⟩
              go_big_quiet_on
              refine wpQuiet_nil ?_
              refine part_step (s := 0) v0e (by go_simp; exact rfl) (by kernel_rfl) (by kernel_rfl) (fun H wx hs hn hp hc => ?_) ?_
              · obtain ⟨_, _, rfl⟩ : H 0 = none ∧ H 1 = none ∧ wx = wd := by
                  rcases hc with h | ⟨h, _⟩ | ⟨h, _⟩
                  · exact h
                  · rw [hn] at h; cases h
                  · rw [hn] at h; cases h
                rename_i hH1
                refine callUpon_mk (f := 55) (args := #[vl, vr]) (by simp [go_sem]) ?_
                exact hbo.out.mono fun e w'' ⟨he, h2⟩ => ⟨_, he, .inr (.inl ⟨rfl, hH1, h2⟩)⟩
              refine part_step (s := 1) v1e (by go_simp; exact rfl) (by kernel_rfl) (by kernel_rfl) (fun H wx hs hn hp hc => ?_) ?_
              · obtain ⟨hH0, _, hbx⟩ : H 0 = some vv ∧ H 1 = none ∧ Below wd.heap.size wd wx := by
                  have h0 : (H 0).isSome = true := hp 0 (by simp)
                  rcases hc with ⟨h, _⟩ | h | ⟨_, h, _⟩
                  · rw [h] at h0; cases h0
                  · exact h
                  · rw [hn] at h; cases h
                obtain ⟨w3, hr3, h3⟩ := hnx.out wx hbx
                exact callUpon_skip (by simp [go_sem, hr3]) (.inr (.inr ⟨hH0, rfl, h3⟩))
              unfold wpLexP
              intro w3 hz
              obtain ⟨_, _, hI3⟩ := hz.done
              replace hI3 := Lib.hid hI3
              clear hx hz hrd2 v0e v1e
              go_wp2_with fail
              go_roundg (wkI s + 1)
              case measure => exact hwk2.out.1
              case rel => exact ⟨s, _, sc, _, mB, rfl, hI3.out, Nat.lt_succ_self _, hwk2.out.2⟩
            · have q5 : (((2 : Nat) : Int) == 1) = false := rfl
              have hval2 := hval.out
              rw [if_neg (by decide)] at hval2
              rw [hval2] at hnx hrd
              obtain ⟨vl, hvl'⟩ : ∃ vl, (bndP col l).val = vl := ⟨_, rfl⟩
              obtain ⟨vr, hvr'⟩ : ∃ vr, (bndP col r).val = vr := ⟨_, rfl⟩
              obtain ⟨vv, hvv'⟩ : ∃ vv, (eitherP (bndP col l) (bndP col r)).val = vv := ⟨_, rfl⟩
              rw [hvl', hvr', hvv'] at hei
              rw [hvl', hvr', hvv'] at hrd
              rw [hvv'] at hnx
              replace hvl' := Lib.hid hvl'
              replace hvr' := Lib.hid hvr'
              replace hvv' := Lib.hid hvv'
              replace hval2 := Lib.hid hval2
              go_wp2_with fail
              rw [← hwa.out]
              refine hip.out.mono ?_
              rintro e w1' ⟨rfl, rfl⟩
              clear hl1 hc0
              go_wp2_with fail
              refine hip.out.mono ?_
              rintro e w1' ⟨rfl, rfl⟩
              clear hl2
              go_wp2_with fail
              refine wp_region_part [14, 15] [[], [0]] [] (CallFin vv (fun wx => SpI W1 root col (w.heap.size + 1) (w.heap.size + 1 + 1) s (some ⟨g, 0, none⟩) sc (setM mS b vv) mB wx) wd) (by kernel_rfl) (by kernel_rfl) (by kernel_rfl) (by rw [← hwd.out]; exact CallFin.start _ _ _) (CallFin.ex (fun w2 hb2 => by
                obtain ⟨w3, _, h3⟩ := hnx.out w2 hb2
                exact ⟨w3, h3⟩)) (fun Hf hx => ?_)
              obtain ⟨w', hx⟩ := hx
              obtain ⟨v0e, v1e, _⟩ := hx.done
              clear d0
              have hrd2 : ∀ {nds : List Nat} {wx : World}, clsP (CallFin vv (fun wx => SpI W1 root col (w.heap.size + 1) (w.heap.size + 1 + 1) s (some ⟨g, 0, none⟩) sc (setM mS b vv) mB wx) wd) Hf nds wx → _ := fun {nds} {wx} h => hrd.out wx (CallFin.at h)
              refine part_chunk [] 14 0 _ _ (by kernel_rfl) (by kernel_rfl) (by decide) ?_
              simp only [List.take_succ_cons, List.take_zero, List.drop_succ_cons, List.drop_zero]
              iterate 6 (go_big_quiet_want; go_big_quiet_op; first | go_big_quiet_on | (refine ⟨_, fun _ _ => rfl, ?_⟩; go_big_quiet_on))
              go_big_quiet_want
              go_big_quiet_op
              refine ⟨ptrV bl, fun wx hx => by simp [go_sem, (hrd2 hx).1], ?_⟩
              go_big_quiet_on
              go_big_quiet_want
              go_big_quiet_op
              refine ⟨vl, fun wx hx => by simp [go_sem, (hrd2 hx).2.2.1], ?_⟩
              go_big_quiet_on
              iterate 4 (go_big_quiet_want; go_big_quiet_op; first | go_big_quiet_on | (refine ⟨_, fun _ _ => rfl, ?_⟩; go_big_quiet_on))
              go_big_quiet_want
              go_big_quiet_op
              refine ⟨ptrV br, fun wx hx => by simp [go_sem, (hrd2 hx).2.1], ?_⟩
              go_big_quiet_on
              go_big_quiet_want
              go_big_quiet_op
              refine ⟨vr, fun wx hx => by simp [go_sem, (hrd2 hx).2.2.2], ?_⟩
              go_big_quiet_on
              refine wpQuiet_nil ?_
              refine part_step (s := 0) v0e (by go_simp; exact rfl) (by kernel_rfl) (by kernel_rfl) (fun H wx hs hn hp hc => ?_) ?_
              · obtain ⟨_, _, rfl⟩ : H 0 = none ∧ H 1 = none ∧ wx = wd := by
                  rcases hc with h | ⟨h, _⟩ | ⟨h, _⟩
                  · exact h
                  · rw [hn] at h; cases h
                  · rw [hn] at h; cases h
                rename_i hH1
                refine callUpon_mk (f := 56) (args := #[vl, vr]) (by simp [go_sem]) ?_
                exact hei.out.mono fun e w'' ⟨he, h2⟩ => ⟨_, he, .inr (.inl ⟨rfl, hH1, h2⟩)⟩
              refine part_step (s := 1) v1e (by go_simp; exact rfl) (by kernel_rfl) (by kernel_rfl) (fun H wx hs hn hp hc => ?_) ?_
              · obtain ⟨hH0, _, hbx⟩ : H 0 = some vv ∧ H 1 = none ∧ Below wd.heap.size wd wx := by
                  have h0 : (H 0).isSome = true := hp 0 (by simp)
                  rcases hc with ⟨h, _⟩ | h | ⟨_, h, _⟩
                  · rw [h] at h0; cases h0
                  · exact h
                  · rw [hn] at h; cases h
                obtain ⟨w3, hr3, h3⟩ := hnx.out wx hbx
                exact callUpon_skip (by simp [go_sem, hr3]) (.inr (.inr ⟨hH0, rfl, h3⟩))
              unfold wpLexP
              intro w3 hz
              obtain ⟨_, _, hI3⟩ := hz.done
              replace hI3 := Lib.hid hI3
              clear hx hz hrd2 v0e v1e
              go_wp2_with fail
              go_roundg (wkI s + 1)
              case measure => exact hwk2.out.1
              case rel => exact ⟨s, _, sc, _, mB, rfl, hI3.out, Nat.lt_succ_self _, hwk2.out.2⟩
        · have hpf : pairB op l r = false := by simpa using hpair
          rw [hpf] at hip
          have hbv : bndP col (.node b op cc v l r) = simpP op cc col v := by unfold bndP; rw [if_neg hpair]
          have hsm := simple_any b op cc col v l.ptr r.ptr wa (hAt.out.1.only (Only.of_below hba) (Nat.not_le.2 hAt.out.1.lt))
          rw [← hbv] at hsm
          replace hip := Lib.hid hip
          replace hsm := Lib.hid hsm
          replace hbv := Lib.hid hbv
          replace hpf := Lib.hid hpf
          replace hwk := Lib.hid hwk
          go_wp2_with fail
          rw [← hwa.out]
          refine hip.out.mono ?_
          rintro e w1' ⟨rfl, rfl⟩
          clear hl1 hc0 hl2
          go_wp2_with fail
          refine hip.out.mono ?_
          rintro e w1' ⟨rfl, rfl⟩
          go_wp2_with fail
          refine hsm.out.mono ?_
          rintro e w2 ⟨rfl, hb2⟩
          obtain ⟨w3, hr3, M3, O3⟩ := (hMa.below hb2).putS hbm (bndP col (.node b op cc v l r)).val
          have hO : Only (fun k => k = w.heap.size + 1) wr w3 := (((Only.of_below hba).mono (fun k hk h => absurd h (Nat.not_le.2 hk))).trans ((Only.of_below hb2).mono (fun k hk h => absurd h (Nat.not_le.2 hk)))).trans O3
          have hI3 : SpI W1 root col (w.heap.size + 1) (w.heap.size + 1 + 1) s (some ⟨g, 0, none⟩) sc (setM mS b (bndP col (.node b op cc v l r)).val) mB w3 := by
            have := hI.out.fin (w' := w3) (S := fun k => k = w.heap.size + 1) (by rw [ht.out]; exact hnS.out) (by rw [ht.out]; exact M3) hO (fun e => (hI.out.ob g rfl).2.1 e)
            rw [ht.out] at this; exact this
          have hwk2 : wkI s + 1 < gk ∧ wkI s ≤ 40000000 := by
            have := hwk.out
            have h1 : 1 ≤ it.wk := by
              cases it with
              | fr u => show 1 ≤ 2 * u.size; rw [show u = _ from ht.out]; simp [AT.size]; omega
              | wt u => exact Nat.le_refl _
            omega
          replace hI3 := Lib.hid hI3
          replace hr3 := Lib.hid hr3
          clear M3 O3 hO hb2 hMa hba
          go_wp2_with (refine wpList_updateM rfl (.tmp 104) (.tmp 105) (.tmp 108) 131 rfl hr3.out ?_)
          go_roundg (wkI s + 1)
          case measure => exact hwk2.1
          case rel => exact ⟨s, _, sc, _, mB, rfl, hI3.out, Nat.lt_succ_self _, hwk2.2⟩
end Go.Proofs.YtgnoikfmhncbmaaGreatDoor
