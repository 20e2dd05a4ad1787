/- SchedStores: the device under the writers' stores; one step of a writer. -/
import Derived.Test.YtdminbjenbbpaaaS5
import Derived.Test.YtdminbjenbbpaaaD15
import Derived.Test.YtdminbjenbbpaaaD16
import Derived.BigRegion
import Derived.BigQuiet
import Derived.StillTailTactics
namespace Go.Proofs.Ytdminbjenbbpaaa
open Go.RowKit

/-- A region that draws its order, whose operations only read but for the last few, which have one order. -/
theorem region_tail {P : Program} {id : Nat} {Q : Exit → Act → World → Prop} {a : Act} {w : World} {l : List Oper} (n : Nat) (hm : P.follows .mixedOrders = true) (hB : Region.lexTailB .any l.toArray n = true)
    (h : wpStill P l.toArray w.drew (fun a' => wpList P l.toArray Q (l.drop n) a' w.drew) (l.take n) a) : (Code.region id l.toArray true).wp P Q a w :=
  wp_region_still_tail n hm hB h

/-- The device of this law: two lines, running, no crash armed; the word at 64 is want, line 1 has n stores. -/
structure DOk (R : Dv) (want n : Nat) : Prop where
  l2 : R.lines.length = 2
  off : R.off = false
  left : R.left = -1
  val : valueP R 64 = want
  his : (R.line 1).hist.length = n
theorem DOk.new : DOk (newP 2) 0 0 := ⟨rfl, rfl, rfl, rfl, rfl⟩
theorem DOk.store {R : Dv} {want n T : Nat} (h : DOk R want n) (hk : R.Ok T) (t v : Nat) : DOk (storeP R t 64 v) v (n + 1) := by
  have hi : R.isB 64 = true := by simp [Dv.isB, h.l2]
  have hc : countB R (R.isB 64) = true := by rw [hi]; simp [countB, h.off, h.left]
  have hl : (countP R t true).lines = R.lines := (countP_lines R t true).1
  have hs : storeP R t 64 v = putP (countP R t true) 64 v := by unfold storeP; rw [if_pos hc, hi]
  have hcp : countP R t true = { R with left := -1, exe := R.exe + 1 } := by simp [countP, h.off, h.left]
  have h1 : (1 : Nat) < (countP R t true).lines.length := by rw [hl, h.l2]; omega
  have hline : (putP (countP R t true) 64 v).line 1 = putL (R.line 1) (64, v) := by
    unfold putP
    rw [setLine_line _ h1, if_pos rfl, countP_line]
  have h8 : (allL (R.line 1)).length = 8 := hk.a8 _ (mem_getD ln0 (by rw [h.l2]; omega))
  rw [hs]
  refine ⟨?_, ?_, ?_, ?_, ?_⟩
  · unfold putP; rw [setLine_len, hl, h.l2]
  · rw [hcp]; exact h.off
  · rw [hcp]; rfl
  · unfold valueP
    rw [show 64 / 64 = 1 from rfl, hline, allL_put]
    unfold setW
    refine getDx_of 0 ?_
    rw [show 64 % 64 / 8 = 0 from rfl, List.getElem?_set_self (by omega)]
  · rw [hline]; simp [putL, h.his]
theorem Dv.Ok.val64 {R : Dv} {T want n : Nat} (h : R.Ok T) (hd : DOk R want n) : want < 18446744073709551616 := by
  rw [← hd.val]; exact value_lt h (by rw [hd.l2]; omega)

/-- A writer's cells. -/
def wst (th : Nat) (v : Value) (nx : Nat) : List Value := [.pointer (some ⟨th, 0, none⟩), .int .u64 64, v, .int .i64 (nx : Int)]
def WPost (w : World) (F : Own) (L : Lay) (T t b nx : Nat) (v : Value) (l : List Nat) (want n : Nat) (e : Ending) (w' : World) : Prop :=
  ∃ F' R', e = .returned (.bool (decide (l.length ≤ nx + 1))) ∧ DevSt w' F' 0 L (T + 2) R' ∧ DOk R' (if nx < l.length then l.getD nx 0 else want) (if nx < l.length then n + 1 else n) ∧
    Has w' b (wst (L.tb t) v (if nx < l.length then nx + 1 else nx)) 60 ∧ Ext w F F' ∧ Only (fun k => Mine F 0 k ∨ k = b) w w'

set_option maxRecDepth 100000 in
set_option maxHeartbeats 1000000 in
theorem wstep_any {w : World} {F : Own} {L : Lay} {T want n : Nat} {R : Dv} (h : DevSt w F 0 L T R) (hd : DOk R want n) (hT : T + 2 ≤ 100000) {t : Nat} (ht : t < 8) (b nx : Nat) (a : Option Addr) (cap : Nat) (l : List Nat)
    (hb : Has w b (wst (L.tb t) (.slice a l.length cap) nx) 60) (hF : F b = none) (hrd : Rd w (.slice a l.length cap) l.length (u64s l)) (hl : l.length ≤ 30) (hlv : ∀ x ∈ l, x < 18446744073709551616) (hnx : nx ≤ l.length) :
    Calls Try.prog 75 #[.pointer (some ⟨b, 0, none⟩)] w (WPost w F L T t b nx (.slice a l.length cap) l want n) := by
  generalize hpost : WPost w F L T t b nx (.slice a l.length cap) l want n = post
  replace hpost := Lib.hid hpost
  have c0 := hb.cell (o := 0) rfl
  have c1 := hb.cell (o := 1) rfl
  have c2 := hb.cell (o := 2) rfl
  have c3 := hb.cell (o := 3) rfl
  obtain ⟨m, hm⟩ : ∃ m, m = l.length := ⟨_, rfl⟩
  rw [← hm] at c2 hl hnx
  by_cases hlt : nx < m
  · have hx : l[nx]? = some (l.getD nx 0) := get_of_lt 0 (by omega)
    have hxv := hlv _ (List.mem_of_getElem? hx)
    obtain ⟨x, hxe⟩ : ∃ x, x = l.getD nx 0 := ⟨_, rfl⟩
    rw [← hxe] at hx hxv
    obtain ⟨rb, ro, rc, hv, hcells⟩ := hrd.cells (by omega)
    simp only [Value.slice.injEq, true_and] at hv
    obtain ⟨rfl, rfl⟩ := hv
    have cx := hcells nx _ (u64s_get l nx x hx)
    have hst := fun k : Nat => store_any ((h.drewN k).drewN 1) hT ht (off := 64) (v := x) (by decide) hxv
    have e64 : ((64 : Nat) : Int) = 64 := rfl
    rw [e64] at hst
    replace hst := Lib.hid hst
    have hd1 : decide ((nx : Int) < (m : Int)) = true := decide_eq_true (by omega)
    have hbd := fun k : Nat => hb.only (((Only.refl (fun _ => False) w).drewN k).drewN 1) (fun s => s)
    replace hm := Lib.hid hm
    replace hxe := Lib.hid hxe
    go_enter Try.func75, Try.ntmps75
    go_wp2_with fail
    go_quiet (fail)
    go_wp2_with fail
    refine region_tail 18 (by kernel_rfl) (by kernel_rfl) ?_
    simp only [List.take_succ_cons, List.take_zero, List.drop_succ_cons, List.drop_zero]
    repeat still_step
    refine wpStill_nil ?_
    go_wp2_with (go_at_call 76; refine (hst.out nq).mono ?_)
    rintro e w1 ⟨F1, rfl, hD1, hS1⟩
    have hO1 : Only (fun k => Mine F 0 k ∨ k = b) w w1 := (((Only.refl _ w).drewN nq).drewN 1).trans' hS1.only (fun k _ s => .inl s)
    have hb1 := (hbd nq).only hS1.only (fun ⟨r, s⟩ => by rw [hF] at s; cases s)
    clear c0 c1 c2 c3 cx hst hbd
    rw [← hm.out] at hb1
    have c2 := hb1.cell (o := 2) rfl
    have c3 := hb1.cell (o := 3) rfl
    have f3 := hb1.free 3
    have hw : wrap64 ((nx : Int) + 1) = (nx : Int) + 1 := by unfold wrap64; omega
    have H2 := hb1.set 3 (.int .i64 ((nx : Int) + 1))
    have d2 := H2.cell (o := 2) rfl
    have d3 := H2.cell (o := 3) rfl
    have hO2 := hO1.setCell (a := ⟨b, 3, none⟩) (fun _ => .inr rfl) (.int .i64 ((nx : Int) + 1))
    have hD2 := hD1.kept (Only.setAt w1 b 3 (.int .i64 ((nx : Int) + 1))) (Ext.refl _ _) (fun k r e s => by
      subst e; rw [hS1.ext _ (by simpa using hb.lt)] at s; rw [hF] at s; cases s)
    replace hw := Lib.hid hw
    replace H2 := Lib.hid H2
    replace hO2 := Lib.hid hO2
    replace hD2 := Lib.hid hD2
    have hge : decide ((m : Int) ≤ (nx : Int) + 1) = decide (m ≤ nx + 1) := by rw [decide_eq_decide]; omega
    replace hge := Lib.hid hge
    go_wp2_with fail
    go_quiet (fail)
    go_wp2_with fail
    refine end_post (v := .bool (decide (m ≤ nx + 1))) ?_ (by simp [hge.out])
    rw [← hpost.out]
    have hm := hm.out
    refine ⟨F1, _, by rw [hm], hD2.out.drewN _, ?_, ?_, hS1.ext, hO2.out.drewN _⟩
    · rw [if_pos (by omega), if_pos (by omega), ← hxe.out]; exact hd.store h.ok t x
    · rw [if_pos (by omega)]
      have := H2.out.only ((Only.refl (fun _ => False) _).drewN nq) (fun s => s)
      rw [← hm]; simpa [wst] using this
  · have hn : nx = m := by omega
    subst hn
    have hd1 : decide ((nx : Int) < (nx : Int)) = false := decide_eq_false (by omega)
    have hd2 : decide ((nx : Int) ≤ (nx : Int)) = true := decide_eq_true (by omega)
    go_enter Try.func75, Try.ntmps75
    go_wp2_with fail
    go_quiet (fail)
    go_wp2_with fail
    go_quiet (fail)
    go_wp2_with fail
    refine end_post (v := .bool true) ?_ (by simp)
    rw [← hpost.out]
    refine ⟨F, R, by rw [← hm, decide_eq_true (by omega)], ((h.up (by omega) hT).drewN _).drewN _, ?_, ?_, Ext.refl _ _, ((Only.refl _ _).drewN _).drewN _⟩
    · rw [if_neg (by omega), if_neg (by omega)]; exact hd
    · rw [if_neg (by omega)]; exact hb.only (((Only.refl (fun _ => False) w).drewN _).drewN _) (fun s => s)
end Go.Proofs.Ytdminbjenbbpaaa
