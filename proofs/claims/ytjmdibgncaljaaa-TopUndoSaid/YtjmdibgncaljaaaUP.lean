/- Walks: slices.Clone of a program, mem.Step, Stepper.Step, Stepper.Err. -/
import Derived.Test.YtjmdibgncaljaaaUO
import Derived.StillTailTactics
namespace Go.Proofs.Ytjmdibgncaljaaa
open Go.RowKit Go.Lib Dev
theorem inCells_one (l : List In) : ∀ u ∈ inCells l, u.oneCell' = true := by
  intro u hu; unfold inCells at hu; simp only [List.mem_flatMap] at hu; obtain ⟨p, _, hu⟩ := hu
  simp only [In.cells, List.mem_cons, List.not_mem_nil, or_false] at hu
  rcases hu with rfl | rfl | rfl <;> rfl
set_option maxHeartbeats 1000000 in
set_option maxRecDepth 100000 in
theorem cloneP_any (w : World) (a : Option Addr) (c : Nat) (l : List In) (hr : Rd w (.slice a l.length c) l.length (inCells l)) (ha : l = [] → a = none ∧ c = 0) (hl : l.length ≤ 1000) :
    Calls Try.prog 102 #[.slice a l.length c] w (RowPost w 85 3 l.length (inCells l)) := by
  generalize hpost : RowPost w 85 3 l.length (inCells l) = post
  by_cases h0 : l = []
  · obtain ⟨rfl, rfl⟩ := ha h0
    subst h0
    have hfin : post (.returned (.slice none 0 0)) w := by rw [← hpost]; exact ⟨none, 0, rfl, RowB.nil w _ _⟩
    replace hfin := Lib.hid hfin
    clear hpost hr
    have heq := fun (w : World) (a : Option Addr) (n c : Nat) => Lib.run_eql_slice_nil (P := Try.prog) w 79 85 a n c 0 0 Try.underlying79
    go_enter Try.func102, Try.ntmps102
    go_wp2_with fail
    first | exact hfin.out | (go_ret; exact hfin.out)
  · obtain ⟨b, off, cl, ea, _⟩ := hr.cells (by have := List.length_pos_iff.2 h0; omega)
    simp only [Value.slice.injEq, true_and] at ea
    obtain ⟨rfl, _⟩ := ea
    have he := own_empty w 85 3
    have hrA : Rd (w.alloc (.cells #[] 85)) (.slice (some ⟨b, off, none⟩) l.length c) l.length (inCells l) := hr.kept ((Below.refl _ _).alloc (Nat.le_refl _) _)
    replace hpost := Lib.hid hpost
    have heq := fun (w : World) (a : Option Addr) (n c : Nat) => Lib.run_eql_slice_nil (P := Try.prog) w 79 85 a n c 0 0 Try.underlying79
    go_enter Try.func102, Try.ntmps102
    go_wp2_with (at_builtin; refine wpList_appAll rfl (.tmp 5) (.tmp 6) 79 rfl 85 (.agg #[.int .u8 0, .int .u64 0, .int .u64 0]) 3 24 Try.underlying79 infoIn rfl (by decide) (by decide) _ 0 0 (Nat.le_refl _) [] he rfl _ l.length c (inCells l) rfl hrA (inCells_len l) (inCells_one l) (by omega) ?_; intro sa cap w1 hcap hown1 only1 fresh1)
    have hfin : post (.returned (.slice sa l.length cap)) w1 := by
      rw [← hpost.out]
      rw [Nat.zero_add] at hown1 fresh1
      refine ⟨_, _, rfl, by simpa using hown1, fun k hk => ?_, ((Below.refl w.heap.size w).alloc (Nat.le_refl _) _).trans (only1.below (by simp) (fun k hk e => by simp [Value.ownBlock] at e; omega))⟩
      rcases fresh1 k hk with h1 | h1
      · simp [Value.ownBlock] at h1; omega
      · simp at h1; omega
    replace hfin := Lib.hid hfin
    clear hown1 only1 fresh1 he hrA hcap
    go_wp2_with fail
    exact hfin.out
/-- A region that draws its order, whose operations only read but for the last few, which have one order. -/
theorem region_tail {P : Program} {id : Nat} {Q : Exit → Act → World → Prop} {a : Act} {w : World} {l : List Oper} (n : Nat) (hm : P.follows .mixedOrders = true) (hB : Region.lexTailB .any l.toArray n = true)
    (h : wpStill P l.toArray w.drew (fun a' => wpList P l.toArray Q (l.drop n) a' w.drew) (l.take n) a) : (Code.region id l.toArray true).wp P Q a w :=
  wp_region_still_tail n hm hB h
/-- A stepper in memory: what is left of its program. -/
structure StS (w : World) (F : Own) (sb tb : Nat) (l : List In) (pa : Option Addr) (pc : Nat) : Prop where
  h : Has w sb [.iface 67 (.pointer (some ⟨tb, 0, none⟩)), .slice pa l.length pc] 191
  r : Rd w (.slice pa l.length pc) l.length (inCells l)
  c : l.length ≤ pc
  f : F sb = none
  fr : ∀ k, Value.ownBlock (.slice pa l.length pc) = some k → F k = none ∧ k ≠ sb ∧ k < w.heap.size
theorem StS.below {w w' : World} {F : Own} {sb tb : Nat} {l : List In} {pa : Option Addr} {pc : Nat} (h : StS w F sb tb l pa pc) (hb : Below w.heap.size w w') : StS w' F sb tb l pa pc :=
  ⟨Has.only h.h (Only.of_below hb) (Nat.not_le.2 h.h.lt), h.r.kept hb, h.c, h.f, fun k hk => ⟨(h.fr k hk).1, (h.fr k hk).2.1, Nat.lt_of_lt_of_le (h.fr k hk).2.2 hb.size⟩⟩
theorem StS.dstep {w w' : World} {F F' : Own} {sb tb o : Nat} {l : List In} {pa : Option Addr} {pc : Nat} (h : StS w F sb tb l pa pc) (hs : Dstep w F o w' F') : StS w' F' sb tb l pa pc :=
  ⟨Has.only h.h hs.only (fun ⟨r, e⟩ => by rw [h.f] at e; cases e), h.r.only hs.only (fun k hk ⟨r, e⟩ => by rw [(h.fr k hk).1] at e; cases e), h.c, (hs.ext sb h.h.lt).trans h.f,
    fun k hk => ⟨(hs.ext k (h.fr k hk).2.2).trans (h.fr k hk).1, (h.fr k hk).2.1, Nat.lt_of_lt_of_le (h.fr k hk).2.2 hs.only.size⟩⟩
def MkStepP (w : World) (tb : Nat) (l : List In) (e : Ending) (w' : World) : Prop := ∃ sb pa pc, e = .returned (.pointer (some ⟨sb, 0, none⟩)) ∧ w.heap.size ≤ sb ∧ Below w.heap.size w w' ∧
  Has w' sb [.iface 67 (.pointer (some ⟨tb, 0, none⟩)), .slice pa l.length pc] 191 ∧ RowB w 85 3 l.length (inCells l) pa pc w' ∧ ∀ k, Value.ownBlock (.slice pa l.length pc) = some k → k ≠ sb
set_option maxHeartbeats 4000000 in
set_option maxRecDepth 100000 in
theorem ustep_any (w : World) (tb : Nat) (a : Option Addr) (c : Nat) (l : List In) (hf : ∀ x ∈ l, FitU x) (hr : Rd w (.slice a l.length c) l.length (inCells l)) (ha : l = [] → a = none ∧ c = 0) (hl : l.length ≤ 1000) :
    Calls Try.prog 70 #[.iface 67 (.pointer (some ⟨tb, 0, none⟩)), .slice a l.length c] w (MkStepP w tb l) := by
  generalize hpost : MkStepP w tb l = post
  have hval := pvalid2 a c l hf hl w hr
  have hcl : ∀ wx, Below w.heap.size w wx → Calls Try.prog 102 #[.slice a l.length c] wx (RowPost wx 85 3 l.length (inCells l)) := fun wx hb => cloneP_any wx a c l (hr.kept hb) ha hl
  obtain ⟨n, hn⟩ : ∃ n, l.length = n := ⟨_, rfl⟩
  have hfin : ∀ w2 pa pc w3, Below w.heap.size w w2 → RowB w2 85 3 n (inCells l) pa pc w3 → post (.returned (.pointer (some ⟨w3.heap.size, 0, none⟩))) (w3.alloc (.cells #[.iface 67 (.pointer (some ⟨tb, 0, none⟩)), .slice pa n pc] 191)) := fun w2 pa pc w3 hb hR => by
    rw [← hpost]
    have h3 := hR.from hb
    have hs := h3.b.size
    refine ⟨w3.heap.size, pa, pc, rfl, hs, h3.b.alloc hs _, ?_, ?_, fun k hk => ?_⟩
    · rw [hn]; exact Has.new w3 _ _
    · rw [hn]; exact h3.alloc _
    · rw [hn] at hk
      have := ownsRow_lt h3.o hk; omega
  rw [hn] at hval hcl ⊢
  replace hval := Lib.hid hval
  replace hcl := Lib.hid hcl
  replace hfin := Lib.hid hfin
  clear hpost hr ha hf
  go_enter Try.func70, Try.ntmps70
  go_wp2_with fail
  refine hval.out.mono ?_
  rintro e w2 ⟨rfl, hB2⟩
  have hc2 := Lib.hid (hcl.out w2 hB2)
  replace hB2 := Lib.hid hB2
  clear hval
  go_wp2_with fail
  refine hc2.out.mono ?_
  rintro e w3 ⟨pa, pc, rfl, hR⟩
  have hf := Lib.hid (hfin.out w2 pa pc w3 hB2.out hR)
  clear hR hc2
  go_wp2_with fail
  first | exact hf.out | (go_ret; exact hf.out)
set_option maxRecDepth 100000 in
/-- p[1:], of a program. -/
theorem cut_one (bl ol n c : Nat) (hc : n + 1 ≤ c) (w : World) (l : List In) (hl : l.length = n + 1) (hr : Rd w (.slice (some ⟨bl, ol, none⟩) (n + 1) c) (n + 1) (inCells l)) :
    ∃ ob, (∀ wx, (Instr.slice 79 (.slice (some ⟨bl, ol, none⟩) (n + 1) c) (some (.int .i64 1)) none none).run Try.prog wx = .ok (.slice (some ⟨bl, ob, none⟩) n (c - 1)) wx) ∧ Rd w (.slice (some ⟨bl, ob, none⟩) n (c - 1)) n (inCells l.tail) := by
  have hadd : (⟨bl, ol, none⟩ : Addr).add 3 = ⟨bl, ol + 3, none⟩ := by
    unfold Addr.add
    split
    · simp_all
    · rfl
  have hrun : ∀ wx, (Instr.slice 79 (.slice (some ⟨bl, ol, none⟩) (n + 1) c) (some (.int .i64 1)) none none).run Try.prog wx = .ok (.slice (if c = 1 then some ⟨bl, ol, none⟩ else some ⟨bl, ol + 3, none⟩) n (c - 1)) wx := fun wx => by
    rw [run_slice_l (P := Try.prog) wx 79 (some ⟨bl, ol, none⟩) (n + 1) c Try.underlying79 .i64 (1 : Int) (by omega) (by omega)]
    have : (sizeOf (Try.prog.elem 79)).run Try.prog wx = .ok 3 wx := by simp [go_sem]
    rw [this]
    simp only [Result.andThen, sliced]
    have e1 : (1 : Int).toNat = 1 := rfl
    rw [e1]
    simp only [Option.map_some, Nat.one_mul, hadd, Nat.add_sub_cancel]
  by_cases h1 : c = 1
  · rw [if_pos h1] at hrun
    have hn : n = 0 := by omega
    subst hn
    have : l.tail = [] := by
      have : l.tail.length = 0 := by rw [List.length_tail, hl]
      exact List.length_eq_zero_iff.1 this
    exact ⟨ol, hrun, _, _, rfl, .inl ⟨rfl, by rw [this]; rfl⟩⟩
  · rw [if_neg h1] at hrun
    obtain ⟨bl2, ol2, cl2, ea, fa⟩ := hr.cells (by omega)
    simp only [Value.slice.injEq, Option.some.injEq, Addr.mk.injEq, and_true, true_and] at ea
    obtain ⟨⟨rfl, rfl⟩, _⟩ := ea
    refine ⟨ol + 3, hrun, _, _, rfl, .inr ⟨bl, ol + 3, rfl, fun j u hj => ?_⟩⟩
    have e := inCells_drop l 1
    rw [List.drop_one] at e
    rw [e, List.getElem?_drop] at hj
    rw [Nat.add_assoc]
    exact fa _ _ hj
variable {w : World} {F : Own} {o T : Nat} {L : Lay} {R : Dv} {lb : Nat}
def StepP (w : World) (F : Own) (L : Lay) (T : Nat) (R : Dv) (sb : Nat) (l : List In) (e : Ending) (w' : World) : Prop := ∃ F' pa pc, e = .returned (.bool (decide (l = []))) ∧ DevSt w' F' 0 L T R ∧ Ext w F F' ∧ Only (fun k => Mine F 0 k ∨ k = sb) w w' ∧ StS w' F' sb (L.tb 0) l pa pc
set_option maxHeartbeats 4000000 in
set_option maxRecDepth 100000 in
theorem ustepS_any (h : DevSt w F 0 L T R) (hT : T + 2 ≤ 100000) {sb : Nat} {x : In} {l : List In} {pa : Option Addr} {pc : Nat} (hl : l.length ≤ 1000) (hx : FitU x) (hS : StS w F sb (L.tb 0) (x :: l) pa pc) :
    Calls Try.prog 71 #[.pointer (some ⟨sb, 0, none⟩)] w (StepP w F L (T + 2) (devI R x) sb l) := by
  generalize hpost : StepP w F L (T + 2) (devI R x) sb l = post
  obtain ⟨n, hn⟩ : ∃ n, l.length = n := ⟨_, rfl⟩
  have hxl : (x :: l).length = n + 1 := by rw [List.length_cons, hn]
  have hSr := hS.r
  have hSc := hS.c
  have hSh := hS.h
  have hSf := hS.fr
  rw [hxl] at hSr hSc hSh hSf
  obtain ⟨bl, ol, cl, ea, fa⟩ := hSr.cells (by omega)
  simp only [Value.slice.injEq, true_and] at ea
  obtain ⟨rfl, hcl⟩ := ea
  clear hcl
  obtain ⟨W1, hW1⟩ : ∃ W1, W1 = w.alloc (.cells #[.int .u8 (x.k : Int), .int .u64 (x.off : Int), .int .u64 (x.v : Int)] 85) := ⟨_, rfl⟩
  have hb1 : Below w.heap.size w W1 := by rw [hW1]; exact (Below.refl _ _).alloc (Nat.le_refl _) _
  have hN1 : Has W1 w.heap.size [.int .u8 (x.k : Int), .int .u64 (x.off : Int), .int .u64 (x.v : Int)] 85 := by rw [hW1]; exact Has.new w _ _
  obtain ⟨ob, hsl, hr1⟩ := cut_one bl ol n pc hSc W1 (x :: l) hxl (hSr.kept hb1)
  rw [List.tail_cons] at hr1
  have hfr := hSf bl rfl
  have hS1 := Has.only hSh (Only.of_below hb1) (Nat.not_le.2 hSh.lt)
  obtain ⟨W2, hW2⟩ : ∃ W2, W2 = W1.setCell ⟨sb, 1, none⟩ (.slice (some ⟨bl, ob, none⟩) n (pc - 1)) := ⟨_, rfl⟩
  have hS2 : Has W2 sb [.iface 67 (.pointer (some ⟨L.tb 0, 0, none⟩)), .slice (some ⟨bl, ob, none⟩) n (pc - 1)] 191 := by rw [hW2]; exact hS1.set 1 _
  have ho2 : Only (fun k => k = sb) W1 W2 := by rw [hW2]; exact (Only.refl (fun k => k = sb) W1).setCell (a := ⟨sb, 1, none⟩) (fun _ => rfl) _
  have hN2 := Has.only hN1 ho2 (fun e => by have := hSh.lt; omega)
  have hr2 := hr1.only ho2 (fun k hk => by cases hk; exact hfr.2.1)
  have hD1 : DevSt W1 F 0 L T R := h.below hb1
  have hD2 : DevSt W2 F 0 L T R := hD1.kept ho2 (Ext.refl _ _) (fun k r e => by rw [e, hS.f]; simp)
  have hD3 : DevSt W2.drew F 0 L T R := hD2.below ((Below.refl _ _).drew)
  have hSt3 : StS W2.drew F sb (L.tb 0) l (some ⟨bl, ob, none⟩) (pc - 1) := ⟨by rw [hn]; exact hS2.drew, by rw [hn]; exact hr2, by omega, hS.f, fun k hk => by cases hk; exact ⟨hfr.1, hfr.2.1, by have := hb1.size; have := ho2.size; simp; omega⟩⟩
  have hex := iexec2 hD3 hT x hx
  have hfin : ∀ w' F', DevSt w' F' 0 L (T + 2) (devI R x) → Dstep W2.drew F 0 w' F' → post (.returned (.bool (decide (n = 0)))) w' ∧ Has w' sb [.iface 67 (.pointer (some ⟨L.tb 0, 0, none⟩)), .slice (some ⟨bl, ob, none⟩) n (pc - 1)] 191 := fun w' F' g1 g2 => by
    have hst := hSt3.dstep g2
    refine ⟨?_, by have := hst.h; rw [hn] at this; exact this⟩
    rw [← hpost]
    refine ⟨F', _, _, ?_, g1, ?_, ?_, hst⟩
    · have : decide (n = 0) = decide (l = []) := by
        rw [← hn]; apply decide_eq_decide.2; exact List.length_eq_zero_iff
      rw [this]
    · exact fun k hk => g2.ext k (by have := hb1.size; have := ho2.size; simp; omega)
    · have o1 : Only (fun k => Mine F 0 k ∨ k = sb) w W1 := (Dstep.below (F := F) (o := 0) hb1).only.mono (fun k _ e => .inl e)
      have o2 : Only (fun k => Mine F 0 k ∨ k = sb) w W2.drew := (o1.trans' ho2 (fun k _ e => .inr e)).drew
      exact o2.trans' g2.only (fun k _ e => .inl e)
  have s0 := hSh.cell (o := 0) rfl
  have s1 := hSh.cell (o := 1) rfl
  have c0 : w.cell? ⟨bl, ol, none⟩ = some (.int .u8 (x.k : Int)) := by have := fa 0 _ rfl; rwa [Nat.add_zero] at this
  have c1 : w.cell? ⟨bl, ol + 1, none⟩ = some (.int .u64 (x.off : Int)) := fa 1 _ rfl
  have c2 : w.cell? ⟨bl, ol + 2, none⟩ = some (.int .u64 (x.v : Int)) := fa 2 _ rfl
  have t0 := hS1.cell (o := 0) rfl
  have t1 := hS1.cell (o := 1) rfl
  have tf := hS1.free 1
  have u0 := hS2.cell (o := 0) rfl
  have u1 := hS2.cell (o := 1) rfl
  have n0 := hN2.cell (o := 0) rfl
  have n1 := hN2.cell (o := 1) rfl
  have n2 := hN2.cell (o := 2) rfl
  have hz : ((n : Int) == 0) = decide (n = 0) := by
    by_cases e : n = 0
    · simp [e]
    · rw [decide_eq_false e]; simp; exact e
  have hz1 : (((n + 1 : Nat) : Int) == 0) = false := by rw [beq_eq_false_iff_ne]; omega
  have hz2 : ((n : Int) + 1 == 0) = false := by rw [beq_eq_false_iff_ne]; omega
  have hlt : (0 : Int) < (n : Int) + 1 := by omega
  have hlt2 : (0 : Int) < ((n + 1 : Nat) : Int) := by omega
  replace hex := Lib.hid hex
  replace hfin := Lib.hid hfin
  replace hW1 := Lib.hid hW1.symm
  replace hW2 := Lib.hid hW2.symm
  replace hz := Lib.hid hz
  obtain ⟨xk, hxk⟩ : ∃ y, x.k = y := ⟨_, rfl⟩
  clear hpost hS h hSr hSc hSh hSf fa hr1 hS1 hS2 hN1 hN2 hr2 hD1 hD2 hD3 hSt3 hb1 ho2 hfr hx hxk xk hn hxl
  go_enter Try.func71, Try.ntmps71
  go_upto_region 4 with fail
  rw [hW1.out]
  go_upto_region 5 with fail
  rw [hW2.out]
  refine region_tail 5 (by kernel_rfl) (by kernel_rfl) ?_
  simp only [List.take_succ_cons, List.take_zero, List.drop_succ_cons, List.drop_zero]
  repeat still_step
  refine wpStill_nil ?_
  go_wp2_with fail
  refine hex.out.mono ?_
  rintro e w' ⟨F', rfl, g1, g2⟩
  obtain ⟨hf, hS9⟩ := hfin.out w' F' g1 g2
  have v1 := hS9.cell (o := 1) rfl
  rw [← hz.out] at hf
  replace hf := Lib.hid hf
  clear g1 g2 hS9 u0 u1 t0 t1 n0 n1 n2
  go_wp2_with fail
  first | exact hf.out | (go_ret; exact hf.out)
set_option maxHeartbeats 4000000 in
set_option maxRecDepth 100000 in
theorem ustepE_any (h : DevSt w F 0 L T R) {sb : Nat} {v : Value} (hS : Has w sb [.iface 67 (.pointer (some ⟨L.tb 0, 0, none⟩)), v] 191) :
    Calls Try.prog 72 #[.pointer (some ⟨sb, 0, none⟩)] w (RS w (.int .i64 ((R.errs.getD 0 0 : Nat) : Int))) := by
  have he := err_any h (t := 0) (by decide)
  have s0 := hS.cell (o := 0) rfl
  have hms := fun w => m_err ⟨L.tb 0, 0, none⟩ w
  obtain ⟨q, hq⟩ : ∃ q, ((R.errs.getD 0 0 : Nat) : Int) = q := ⟨_, rfl⟩
  rw [hq] at he ⊢
  replace he := Lib.hid he
  clear h hS hq
  go_enter Try.func72, Try.ntmps72
  go_wp2_with fail
  refine he.out.mono ?_
  rintro e w' ⟨rfl, rfl⟩
  go_wp2_with fail
  first | exact ⟨rfl, rfl⟩ | (go_ret; exact ⟨rfl, rfl⟩)
end Go.Proofs.Ytjmdibgncaljaaa
