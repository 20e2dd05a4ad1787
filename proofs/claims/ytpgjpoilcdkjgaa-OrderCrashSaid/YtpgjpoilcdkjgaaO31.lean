/- The reference's Count and Cut. -/
import Derived.Test.YtpgjpoilcdkjgaaO29
import Derived.StillTailTactics
namespace Go.Proofs.Ytpgjpoilcdkjgaa
open Go.RowKit

def rcK (l : List RSt) (ls : List Nat) : Nat → Option Nat
  | 0 => some 1
  | k + 1 => match rcK l ls k with
    | none => none
    | some t => if 4611686018427387904 / (looseP l (ls.getD k 0) + 1) < t then none else some (t * (looseP l (ls.getD k 0) + 1))
theorem rcK_bd (l : List RSt) (ls : List Nat) : ∀ k t, rcK l ls k = some t → 1 ≤ t ∧ t ≤ 4611686018427387904
  | 0, t, h => by simp [rcK] at h; omega
  | k + 1, t, h => by
    unfold rcK at h
    cases hq : rcK l ls k with
    | none => rw [hq] at h; cases h
    | some s =>
      rw [hq] at h
      have ih := rcK_bd l ls k s hq
      simp only at h
      split at h
      · cases h
      · rename_i hn
        simp only [Option.some.injEq] at h
        subst h
        have h1 : s ≤ 4611686018427387904 / (looseP l (ls.getD k 0) + 1) := by omega
        have h2 := Nat.mul_le_of_le_div _ _ _ h1
        exact ⟨Nat.one_le_iff_ne_zero.2 (by intro e; have := Nat.mul_eq_zero.1 e; omega), h2⟩
theorem rcK_none (l : List RSt) (ls : List Nat) {k m : Nat} (hk : k ≤ m) (h : rcK l ls k = none) : rcK l ls m = none := by
  induction hk with
  | refl => exact h
  | step _ ih => unfold rcK; rw [ih]
def rcnt (l : List RSt) : Option Nat := rcK l (linesK l 4096) (linesK l 4096).length
def CountPost (w : World) (o : Option Nat) (e : Ending) (w' : World) : Prop := e = .returned (cntV o) ∧ Below w.heap.size w w'

set_option maxHeartbeats 4000000 in
set_option maxRecDepth 100000 in
theorem refcount_any (sa : Option Addr) (cap : Nat) (l : List RSt) (N : Nat) (hN : l.length = N) (w : World) (h : Rd w (.slice sa N cap) N (sCells l)) (hl : N ≤ 20000) :
    Calls Try.prog 21 #[.slice sa N cap] w (CountPost w (rcnt l)) := by
  generalize hpost : CountPost w (rcnt l) = post
  replace hpost := Lib.hid hpost
  have hli := lines_ref sa cap l N hN w h hl
  have hrc : rcnt l = rcK l (linesK l 4096) (linesK l 4096).length := rfl
  have hlt4 := linesK_lt l 4096
  have hle4 := linesK_le l 4096
  have hlo := fun line w h => loose_at sa cap l N hN line w h hl
  have hloB := looseP_le l
  rw [hN] at hloB
  generalize linesK l 4096 = ls at *
  have hbd := rcK_bd l ls
  have hno := fun k => @rcK_none l ls k ls.length
  rw [hrc] at hpost
  replace hli := Lib.hid hli
  replace hlo := Lib.hid hlo
  replace hrc := Lib.hid hrc
  replace hN := Lib.hid hN
  replace hbd := Lib.hid hbd
  replace hno := Lib.hid hno
  replace hlt4 := Lib.hid hlt4
  replace hloB := Lib.hid hloB
  go_enter Try.func21, Try.ntmps21
  go_wp2_with fail
  refine hli.out.mono ?_
  rintro e w1 ⟨na, nc, rfl, hown, hB1, _⟩
  have hr1 := Rd.of_own hown
  clear hli hown
  go_wp2_with fail
  go_loopw [4, 11] (fun v i wr => ∃ k t : Nat, k ≤ ls.length ∧ i = .int .i64 k ∧ v = .int .u64 t ∧ Hid (rcK l ls k = some t) ∧ 1 ≤ t ∧ t ≤ 4611686018427387904 ∧ Rd wr (.slice na ls.length nc) ls.length (nats ls) ∧ Below w.heap.size w wr) (fun _ i _ => ls.length - (intOf i).toNat)
  case atStart => exact ⟨0, 1, by omega, rfl, rfl, rfl, by omega, by omega, hr1, hB1⟩
  case round =>
    clear hr1 hB1
    obtain ⟨k, t, hk, rfl, rfl, ht, ht1, ht2, hrk, hB⟩ := hrel
    by_cases hlt : k < ls.length
    · have hkI : (k : Int) < ls.length := by omega
      obtain ⟨b, off, c, e1, f⟩ := hrk.cells (by omega)
      simp only [Value.slice.injEq, true_and] at e1
      obtain ⟨rfl, hc⟩ := e1
      replace hc := Lib.hid hc
      have c0 := f k _ (nats_get ls k _ (get_of_lt 0 hlt))
      have hx4 := hlt4.out _ (mem_getD 0 hlt)
      have hs : rcK l ls (k + 1) = if 4611686018427387904 / (looseP l (ls.getD k 0) + 1) < t then none else some (t * (looseP l (ls.getD k 0) + 1)) := by
        show (match rcK l ls k with | none => none | some t => _) = _
        rw [ht.out]
      have hl1 := hlo.out (ls.getD k 0) wr (h.kept hB)
      have hlb := hloB.out (ls.getD k 0)
      generalize looseP l (ls.getD k 0) = lo at *
      generalize ls.getD k 0 = x at *
      replace hl1 := Lib.hid hl1
      have hloI : (lo : Int) ≤ 20000 := by omega
      clear f
      by_cases hq : 4611686018427387904 / (lo + 1) < t
      · rw [if_pos hq] at hs
        have hnone := hno.out (k + 1) (by omega) hs
        have hqI : ((4611686018427387904 / (lo + 1) : Nat) : Int) < (t : Int) := by omega
        have hqI : (4611686018427387904 : Int) / ((lo : Int) + 1) < (t : Int) := by simpa using hqI
        have dq : decide ((4611686018427387904 : Int) / ((lo : Int) + 1) < (t : Int)) = true := decide_eq_true hqI
        rw [hnone] at hpost
        replace hs := Lib.hid hs
        replace hnone := Lib.hid hnone
        replace hq := Lib.hid hq
        go_wp2_with fail
        refine hl1.out.mono ?_
        rintro e w2 ⟨rfl, hB2⟩
        have hBn := hB.trans (hB2.mono hB.size)
        clear hl1 hB2 c0
        go_wp2_with fail
        have hp : post (.returned (cntV none)) w2 := by rw [← hpost.out]; exact ⟨rfl, hBn⟩
        unfold cntV at hp
        first | exact hp | (go_ret2; exact hp)
      · rw [if_neg hq] at hs
        have hqI : ¬ ((4611686018427387904 / (lo + 1) : Nat) : Int) < (t : Int) := by omega
        have hqI : ¬ (4611686018427387904 : Int) / ((lo : Int) + 1) < (t : Int) := by simpa using hqI
        have dq : decide ((4611686018427387904 : Int) / ((lo : Int) + 1) < (t : Int)) = false := decide_eq_false hqI
        obtain ⟨b1, b2⟩ := hbd.out (k + 1) _ hs
        have hmul : (t : Int) * ((lo : Int) + 1) = ((t * (lo + 1) : Nat) : Int) := by simp
        have hmb : (t : Int) * ((lo : Int) + 1) ≤ 4611686018427387904 := by rw [hmul]; omega
        have hm0 : 0 ≤ (t : Int) * ((lo : Int) + 1) := by rw [hmul]; omega
        replace hmul := Lib.hid hmul
        replace hs := Lib.hid hs
        replace hq := Lib.hid hq
        go_wp2_with fail
        refine hl1.out.mono ?_
        rintro e w2 ⟨rfl, hB2⟩
        have hBn := hB.trans (hB2.mono hB.size)
        have hrn := hrk.kept hB2
        clear hl1 hB2 c0 hB
        go_wp2_with fail
        go_roundw
        case rel => exact ⟨k + 1, t * (lo + 1), by omega, by go_num, by rw [← hmul.out], hs.out, b1, b2, hrn, hBn⟩
        case measure => simp [intOf]; omega
    · obtain rfl : k = ls.length := by omega
      have hp : post (.returned (cntV (some t))) wr := by rw [← hpost.out, ht.out]; exact ⟨rfl, hB⟩
      unfold cntV at hp
      replace hp := Lib.hid hp
      go_wp2_with fail
      first | exact hp.out | (go_ret2; exact hp.out)

/-- One line of a cut's number. -/
def cutStep (l : List RSt) (s : List Nat × Nat) (x : Nat) : List Nat × Nat := (s.1.set x (s.2 % (looseP l x + 1)), s.2 / (looseP l x + 1))
def cutF (l : List RSt) (ls : List Nat) (n j : Nat) : List Nat × Nat := (ls.reverse.take j).foldl (cutStep l) (List.replicate 4096 0, n)
theorem cutF_succ (l : List RSt) (ls : List Nat) (n j : Nat) (hj : j < ls.length) : cutF l ls n (j + 1) = cutStep l (cutF l ls n j) (ls.getD (ls.length - 1 - j) 0) := by
  unfold cutF
  rw [take_getD ls.reverse j 0 (by simpa using hj), List.foldl_append]
  have : ls.reverse.getD j 0 = ls.getD (ls.length - 1 - j) 0 := by
    rw [List.getD, List.getD, List.getElem?_reverse hj]
  rw [this]; rfl
theorem cutF_bd (l : List RSt) (ls : List Nat) (n : Nat) : ∀ j, j ≤ ls.length → (cutF l ls n j).1.length = 4096 ∧ (∀ x, (cutF l ls n j).1.getD x 0 ≤ looseP l x) ∧ (cutF l ls n j).2 ≤ n
  | 0, _ => by
    refine ⟨List.length_replicate, fun x => ?_, Nat.le_refl _⟩
    show (List.replicate 4096 0).getD x 0 ≤ _
    rw [List.getD, List.getElem?_replicate]
    split
    · exact Nat.zero_le _
    · exact Nat.zero_le _
  | j + 1, hj => by
    obtain ⟨h1, h2, h3⟩ := cutF_bd l ls n j (by omega)
    rw [cutF_succ l ls n j (by omega)]
    generalize ls.getD (ls.length - 1 - j) 0 = y
    unfold cutStep
    refine ⟨by simpa using h1, fun x => ?_, Nat.le_trans (Nat.div_le_self _ _) h3⟩
    simp only
    rw [List.getD, List.getElem?_set]
    split
    · rename_i hxy
      subst hxy
      split
      · have := Nat.mod_lt (cutF l ls n j).2 (show 0 < looseP l y + 1 by omega)
        simp only [Option.getD_some]; omega
      · simp
    · exact h2 x
def pickK (l : List RSt) (tk : List Nat) : Nat → List Nat × List Nat
  | 0 => ([], tk)
  | k + 1 => if (l.getD k RSt.zero).mand = true then ((pickK l tk k).1 ++ [k], (pickK l tk k).2)
    else if 0 < (pickK l tk k).2.getD (l.getD k RSt.zero).line 0 then ((pickK l tk k).1 ++ [k], (pickK l tk k).2.set (l.getD k RSt.zero).line ((pickK l tk k).2.getD (l.getD k RSt.zero).line 0 - 1))
    else pickK l tk k
theorem pickK_len (l : List RSt) (tk : List Nat) : ∀ k, (pickK l tk k).1.length ≤ k ∧ (pickK l tk k).2.length = tk.length
  | 0 => ⟨Nat.le_refl _, rfl⟩
  | k + 1 => by
    obtain ⟨h1, h2⟩ := pickK_len l tk k
    unfold pickK
    split
    · exact ⟨by simp; omega, h2⟩
    split
    · exact ⟨by simp; omega, by simpa using h2⟩
    · exact ⟨by omega, h2⟩
def rcut (l : List RSt) (n : Nat) : List Nat := (pickK l (cutF l (linesK l 4096) n (linesK l 4096).length).1 l.length).1

theorem natsR (n : Nat) : nats (List.replicate n 0) = List.replicate n (Value.int .i64 0) := by simp [nats]
theorem nats_set' (l : List Nat) (i v : Nat) : nats (l.set i v) = (nats l).set i (.int .i64 (v : Int)) := by unfold nats; rw [List.map_set]

set_option maxHeartbeats 8000000 in
set_option maxRecDepth 100000 in
theorem refcut_any (sa : Option Addr) (cap : Nat) (l : List RSt) (N n : Nat) (hN : l.length = N) (hn : n < 18446744073709551616) (hline : ∀ s ∈ l, s.line < 4096) (w : World) (h : Rd w (.slice sa N cap) N (sCells l)) (hl : N ≤ 20000) :
    Calls Try.prog 22 #[.slice sa N cap, .int .u64 n] w (NewNats w (rcut l n)) := by
  generalize hpost : NewNats w (rcut l n) = post
  replace hpost := Lib.hid hpost
  have hli := lines_ref sa cap l N hN w h hl
  have hrc : rcut l n = (pickK l (cutF l (linesK l 4096) n (linesK l 4096).length).1 l.length).1 := rfl
  have hlt4 := linesK_lt l 4096
  have hle4 := linesK_le l 4096
  have hlo := fun line w h => loose_at sa cap l N hN line w h hl
  have hloB := looseP_le l
  have hmk := make1 (P := Try.prog) 33 3 (.int .i64 0) 8 Try.underlying33 info3 rfl 4096 (by omega) (by omega)
  rw [hN] at hloB hrc
  generalize linesK l 4096 = ls at *
  have hcs := cutF_succ l ls n
  have hcb := cutF_bd l ls n
  rw [hrc] at hpost
  have hmk2 : ∀ w : World, (Instr.makeSlice 33 (.int .i64 4096) (.int .i64 4096)).run Try.prog w = .ok (.slice (some ⟨w.heap.size, 0, none⟩) 4096 4096) (w.alloc (.cells (Array.replicate 4096 (.int .i64 0)) 3)) := hmk
  clear hmk
  replace hli := Lib.hid hli
  replace hlo := Lib.hid hlo
  replace hrc := Lib.hid hrc
  replace hlt4 := Lib.hid hlt4
  replace hloB := Lib.hid hloB
  replace hcs := Lib.hid hcs
  replace hcb := Lib.hid hcb
  replace hline := Lib.hid hline
  go_enter Try.func22, Try.ntmps22
  go_wp2_with fail
  refine hli.out.mono ?_
  rintro e w1 ⟨na, nc, rfl, hown, hB1, _⟩
  have hr1 := Rd.of_own hown
  have hnal := fun k (hk : Value.ownBlock (.slice na ls.length nc) = some k) => ownsRow_lt hown hk
  replace hnal := Lib.hid hnal
  have hA1 : Below w1.heap.size w1 (w1.alloc (.cells (Array.replicate 4096 (.int .i64 0)) 3)) := (Below.refl _ _).alloc (Nat.le_refl _) _
  have hr2 := hr1.kept hA1
  have hB2 := hB1.trans (hA1.mono hB1.size)
  have ht2 := Has.rep w1 4096 (.int .i64 0) 3
  rw [← natsR] at ht2
  have hz1 := hB1.size
  have hst0 : (cutF l ls n 0) = (List.replicate 4096 0, n) := rfl
  replace hst0 := Lib.hid hst0
  replace ht2 := Lib.hid ht2
  clear hli hown hr1 hA1 hB1
  go_wp2_with fail
  go_loopw [1, 7] (fun v i wr => ∃ j : Nat, j ≤ ls.length ∧ i = .int .i64 ((ls.length : Int) - 1 - j) ∧ v = .int .u64 ((cutF l ls n j).2 : Nat) ∧ Has wr w1.heap.size (nats (cutF l ls n j).1) 3 ∧ Rd wr (.slice na ls.length nc) ls.length (nats ls) ∧ Below w.heap.size w wr) (fun _ i _ => (intOf i + 1).toNat)
  case atStart => exact ⟨0, by omega, by go_num, rfl, ht2.out, hr2, hB2⟩
  case round =>
    clear hr2 hB2 ht2
    obtain ⟨j, hj, rfl, rfl, htk, hrk, hB⟩ := hrel
    obtain ⟨cb1, cb2, cb3⟩ := hcb.out j hj
    by_cases hlt : j < ls.length
    · obtain ⟨b, off, c, e1, f⟩ := hrk.cells (by omega)
      simp only [Value.slice.injEq, true_and] at e1
      obtain ⟨rfl, hc⟩ := e1
      replace hc := Lib.hid hc
      have hs := hcs.out j hlt
      have hil : ls.length - 1 - j < ls.length := by omega
      have c0 := f (ls.length - 1 - j) _ (nats_get ls _ _ (get_of_lt 0 hil))
      have hx4 := hlt4.out _ (mem_getD 0 hil)
      have hl1 := hlo.out (ls.getD (ls.length - 1 - j) 0) wr (h.kept hB)
      have hlb := hloB.out (ls.getD (ls.length - 1 - j) 0)
      unfold cutStep at hs
      have hii : (ls.length : Int) - 1 - j = ((ls.length - 1 - j : Nat) : Int) := by omega
      generalize hI : ls.length - 1 - j = i at *
      rw [hii]
      generalize looseP l (ls.getD i 0) = lo at *
      generalize ls.getD i 0 = x at *
      generalize cutF l ls n j = S at *
      obtain ⟨tk, m⟩ := S
      simp only at cb1 cb2 cb3 hs htk ⊢
      have hiI : (i : Int) < ls.length := by omega
      have hi0 : (0 : Int) ≤ (i : Int) := by omega
      have hx0 : (0 : Int) ≤ (x : Int) := by omega
      have hxI : (x : Int) < 4096 := by omega
      have hloI : (lo : Int) ≤ 20000 := by omega
      have hmI : (m : Int) < 18446744073709551616 := by omega
      have hml : m % (lo + 1) ≤ lo := by have := Nat.mod_lt m (show 0 < lo + 1 by omega); omega
      replace hl1 := Lib.hid hl1
      replace hs := Lib.hid hs
      replace hI := Lib.hid hI
      replace hii := Lib.hid hii
      clear f
      go_wp2_with fail
      refine hl1.out.mono ?_
      rintro e w2 ⟨rfl, hB2⟩
      have hBn := hB.trans (hB2.mono hB.size)
      have hrn := hrk.kept hB2
      have c02 := bcell hB2 c0
      have htn := htk.only (Only.of_below hB2) (by have := htk.lt; omega)
      have ct := htn.cell (o := x) (nats_get tk x _ (get_of_lt 0 (by omega)))
      have cf := htn.free x
      clear hl1 hB2 c0 htk
      go_wp2_with fail
      have hd0 : (((lo : Int) + 1) == 0) = false := by rw [beq_eq_false_iff_ne]; omega
      have hd1 : ¬ (lo : Int) + 1 = 0 := by omega
      have hm0 : (0 : Int) ≤ (m : Int) := by omega
      have hr0 : 0 ≤ (m : Int) % ((lo : Int) + 1) := Int.emod_nonneg _ (by omega)
      have hr1 : (m : Int) % ((lo : Int) + 1) ≤ 20000 := by
        have : ((m % (lo + 1) : Nat) : Int) ≤ 20000 := by omega
        simpa using this
      have hq0 : 0 ≤ (m : Int) / ((lo : Int) + 1) := Int.ediv_nonneg hm0 (by omega)
      have hq1 : (m : Int) / ((lo : Int) + 1) < 18446744073709551616 := by
        have h1 : m / (lo + 1) ≤ m := Nat.div_le_self _ _
        have : ((m / (lo + 1) : Nat) : Int) < 18446744073709551616 := by omega
        simpa using this
      have hset := htn.drew.set x (.int .i64 ((m % (lo + 1) : Nat) : Int))
      have hOs := ((Only.refl (fun k => k = w1.heap.size) w2).drew.setCell (a := ⟨w1.heap.size, x, none⟩) (fun _ => rfl) (.int .i64 ((m % (lo + 1) : Nat) : Int)))
      have hcast : ((m % (lo + 1) : Nat) : Int) = (m : Int) % ((lo : Int) + 1) := by simp
      have hcas2 : ((m / (lo + 1) : Nat) : Int) = (m : Int) / ((lo : Int) + 1) := by simp
      rw [hcast] at hset hOs
      replace hset := Lib.hid hset
      replace hOs := Lib.hid hOs
      replace hcast := Lib.hid hcast
      replace hcas2 := Lib.hid hcas2
      refine region_tail 10 (by kernel_rfl) (by kernel_rfl) ?_
      simp only [List.take_succ_cons, List.take_zero, List.drop_succ_cons, List.drop_zero]
      repeat still_step
      refine wpStill_nil ?_
      go_wp2_with fail
      go_roundw
      case rel =>
        refine ⟨j + 1, by omega, ?_, ?_, ?_, ?_, ?_⟩
        · have := hI.out; have h1 := hii.out; exact int_eq (by omega)
        · rw [hs.out]; exact int_eq hcas2.out.symm
        · rw [hs.out, nats_set', hcast.out]; exact hset.out
        · exact hrn.only hOs.out (fun q hq e => by have := hnal.out q hq; omega)
        · exact hBn.trans (hOs.out.below (by have := hBn.size; omega) (fun q _ e => by omega))
      case measure => (simp [intOf]) <;> omega
    · obtain rfl : j = ls.length := by omega
      have hi1 : (ls.length : Int) - 1 - (ls.length : Nat) = -1 := by omega
      rw [hi1]
      replace hi1 := Lib.hid hi1
      clear hrk
      have hpk : ∀ k, pickK l (cutF l ls n ls.length).1 (k + 1) = if (l.getD k RSt.zero).mand = true then ((pickK l (cutF l ls n ls.length).1 k).1 ++ [k], (pickK l (cutF l ls n ls.length).1 k).2)
          else if 0 < (pickK l (cutF l ls n ls.length).1 k).2.getD (l.getD k RSt.zero).line 0 then ((pickK l (cutF l ls n ls.length).1 k).1 ++ [k], (pickK l (cutF l ls n ls.length).1 k).2.set (l.getD k RSt.zero).line ((pickK l (cutF l ls n ls.length).1 k).2.getD (l.getD k RSt.zero).line 0 - 1))
          else pickK l (cutF l ls n ls.length).1 k := fun k => rfl
      have hpl := fun k => pickK_len l (cutF l ls n ls.length).1 k
      have hp0 : pickK l (cutF l ls n ls.length).1 0 = ([], (cutF l ls n ls.length).1) := rfl
      rw [cb1] at hpl
      have hpb : ∀ k x, (pickK l (cutF l ls n ls.length).1 k).2.getD x 0 ≤ 20000 := by
        intro k
        induction k with
        | zero => intro x; rw [hp0]; exact Nat.le_trans (cb2 x) (Nat.le_trans (hloB.out x) hl)
        | succ k ih =>
          intro x
          rw [hpk]
          split
          · exact ih x
          split
          · simp only
            rw [List.getD, List.getElem?_set]
            split
            · split
              · have := ih (l.getD k RSt.zero).line; simp only [Option.getD_some]; omega
              · simp
            · exact ih x
          · exact ih x
      generalize cutF l ls n ls.length = T at *
      replace hpk := Lib.hid hpk
      replace hpl := Lib.hid hpl
      replace hpb := Lib.hid hpb
      replace hp0 := Lib.hid hp0
      clear cb2 cb3
      go_wp2_with fail
      obtain ⟨wo, rfl⟩ : ∃ y : World, y = wr := ⟨_, rfl⟩
      go_loopw [9, 45] (fun v i wr => ∃ (k : Nat) (oa : Option Addr) (oc : Nat), k ≤ N ∧ i = .int .i64 k ∧ v = .slice oa (pickK l T.1 k).1.length oc ∧ wr.ownsRow 0 3 1 (.slice oa (pickK l T.1 k).1.length oc) (pickK l T.1 k).1.length (nats (pickK l T.1 k).1) ∧
          Has wr w1.heap.size (nats (pickK l T.1 k).2) 3 ∧ Below w.heap.size w wr ∧ (∀ j, Value.ownBlock (.slice oa (pickK l T.1 k).1.length oc) = some j → w1.heap.size < j)) (fun _ i _ => N - (intOf i).toNat)
      case atStart => exact ⟨0, none, 0, by omega, rfl, rfl, World.ownsRow_nil _ _ _ _, htk, hB, by intro j hj; cases hj⟩
      case round =>
        clear htk hB
        obtain ⟨k, oa, oc, hk, rfl, rfl, hown, htk, hB, hob⟩ := hrel
        by_cases hlt : k < N
        · have hkI : (k : Int) < N := by omega
          obtain ⟨b, off, c, e1, f⟩ := (h.kept hB).cells (by omega)
          simp only [Value.slice.injEq, true_and] at e1
          obtain ⟨rfl, hc⟩ := e1
          replace hc := Lib.hid hc
          have hkl : k < l.length := by rw [hN]; exact hlt
          have hat := get_of_lt RSt.zero hkl
          have hln := hline.out _ (List.mem_of_getElem? hat)
          have hp := hpk.out k
          obtain ⟨pl1, pl2⟩ := hpl.out k
          have hpbk := hpb.out k
          generalize pickK l T.1 k = P at *
          obtain ⟨xs, tk⟩ := P
          simp only at hown htk hob hp pl1 pl2 hpbk ⊢
          generalize l.getD k RSt.zero = s at *
          have c0 : wr.cell? ⟨b, off + k * 4, none⟩ = _ := f _ _ (sCells_get _ k _ hat 0 _ rfl)
          have c1 : wr.cell? ⟨b, off + k * 4 + 1, none⟩ = _ := f _ _ (sCells_get _ k _ hat 1 _ rfl)
          have c2 : wr.cell? ⟨b, off + k * 4 + 2, none⟩ = _ := f _ _ (sCells_get _ k _ hat 2 _ rfl)
          have c3 : wr.cell? ⟨b, off + k * 4 + 3, none⟩ = _ := f _ _ (sCells_get _ k _ hat 3 _ rfl)
          replace hat := Lib.hid hat
          clear f
          have hlnI : (s.line : Int) < 4096 := by omega
          have hln0 : (0 : Int) ≤ (s.line : Int) := by omega
          cases hm : s.mand with
          | true =>
            rw [hm] at c3 hp
            rw [if_pos rfl] at hp
            replace hp := Lib.hid hp
            clear hm
            have hN9 : Has ((wr.alloc (.cells #[.int .i64 (s.line : Int), .int .u64 (s.off : Int), .int .u64 (s.val : Int), .bool true] 57)).alloc (.cells #[.int .i64 (k : Int)] 3)) (wr.heap.size + 1) [.int .i64 (k : Int)] 3 := by
              have := Has.new (wr.alloc (.cells #[.int .i64 (s.line : Int), .int .u64 (s.off : Int), .int .u64 (s.val : Int), .bool true] 57)) [.int .i64 (k : Int)] 3
              have e : (wr.alloc (.cells #[.int .i64 (s.line : Int), .int .u64 (s.off : Int), .int .u64 (s.val : Int), .bool true] 57)).heap.size = wr.heap.size + 1 := by simp
              rw [e] at this
              exact this
            have hby : (xs.length + 1) * 8 ≤ 140737488355328 := by omega
            have ho2 := (hown.alloc (.cells #[.int .i64 (s.line : Int), .int .u64 (s.off : Int), .int .u64 (s.val : Int), .bool true] 57)).alloc (.cells #[.int .i64 (k : Int)] 3)
            have hB2 := (hB.alloc hB.size (.cells #[.int .i64 (s.line : Int), .int .u64 (s.off : Int), .int .u64 (s.val : Int), .bool true] 57)).alloc (by have := hB.size; simp; omega) (.cells #[.int .i64 (k : Int)] 3)
            have ht2 := (htk.alloc (.cells #[.int .i64 (s.line : Int), .int .u64 (s.off : Int), .int .u64 (s.val : Int), .bool true] 57)).alloc (.cells #[.int .i64 (k : Int)] 3)
            have hE2 := ((Has.new wr [.int .i64 (s.line : Int), .int .u64 (s.off : Int), .int .u64 (s.val : Int), .bool true] 57).alloc (.cells #[.int .i64 (k : Int)] 3))
            have hwl1 := htk.lt
            have howr := fun j (hj : Value.ownBlock (.slice oa xs.length oc) = some j) => ownsRow_lt hown hj
            replace hB2 := Lib.hid hB2
            replace ht2 := Lib.hid ht2
            replace hE2 := Lib.hid hE2
            replace howr := Lib.hid howr
            clear hown hB
            go_wp2_with (at_builtin; refine wpList_app rfl (.tmp 52) (.tmp 54) 33 rfl 3 (.int .i64 0) 1 8 Try.underlying33 info3 rfl (by decide) (by decide) oa xs.length oc (nats xs) (by exact ho2) rfl _ 1 1 [.int .i64 (k : Int)] rfl rfl (by exact news_at hN9) (by simp [Value.oneCell']) (by exact hby) ?_)
            intro oa' oc' w4 own4 only4 fresh4
            have hB4 := hB2.out.trans (only4.below (B := w.heap.size) (by have := hB2.out.size; simp at this ⊢; omega) (fun j _ hj => by have := hob j hj; omega))
            have ht4 := ht2.out.only only4 (fun e => by have := hob _ e; omega)
            have hE4 := hE2.out.only only4 (fun e => by have := howr.out _ e; omega)
            have hob4 : ∀ j, Value.ownBlock (.slice oa' (xs.length + 1) oc') = some j → w1.heap.size < j := by
              intro j hj
              rcases fresh4 j hj with h1 | h1
              · exact hob j h1
              · have h1 : wr.heap.size + 1 + 1 ≤ j := by simpa using h1
                omega
            have hxl : (xs ++ [k]).length = xs.length + 1 := by simp
            replace hxl := Lib.hid hxl
            clear hE4
            go_wp2_with fail
            go_roundw
            case rel => exact ⟨k + 1, oa', oc', by omega, by go_num, by rw [hp.out]; simp, by rw [hp.out]; simpa [nats] using own4, by rw [hp.out]; exact ht4, hB4, by rw [hp.out, hxl.out]; exact hob4⟩
            case measure => (simp [intOf]) <;> omega
          | false =>
            rw [hm] at c3 hp
            rw [if_neg (by decide)] at hp
            clear hm
            have ct := (htk.alloc (.cells #[.int .i64 (s.line : Int), .int .u64 (s.off : Int), .int .u64 (s.val : Int), .bool false] 57)).cell (o := s.line) (nats_get tk s.line _ (get_of_lt 0 (by omega)))
            have hpx := hpbk s.line
            by_cases hpos : 0 < tk.getD s.line 0
            · rw [if_pos hpos] at hp
              have dp : decide ((0 : Int) < ((tk.getD s.line 0 : Nat) : Int)) = true := decide_eq_true (by omega)
              generalize hv : tk.getD s.line 0 = v at *
              replace hv := Lib.hid hv
              have hvs : ((v - 1 : Nat) : Int) = (v : Int) - 1 := by omega
              replace hvs := Lib.hid hvs
              replace hp := Lib.hid hp
              have hN9 : Has ((wr.alloc (.cells #[.int .i64 (s.line : Int), .int .u64 (s.off : Int), .int .u64 (s.val : Int), .bool false] 57)).alloc (.cells #[.int .i64 (k : Int)] 3)) (wr.heap.size + 1) [.int .i64 (k : Int)] 3 := by
                have := Has.new (wr.alloc (.cells #[.int .i64 (s.line : Int), .int .u64 (s.off : Int), .int .u64 (s.val : Int), .bool false] 57)) [.int .i64 (k : Int)] 3
                have e : (wr.alloc (.cells #[.int .i64 (s.line : Int), .int .u64 (s.off : Int), .int .u64 (s.val : Int), .bool false] 57)).heap.size = wr.heap.size + 1 := by simp
                rw [e] at this
                exact this
              have hby : (xs.length + 1) * 8 ≤ 140737488355328 := by omega
              have ho2 := (hown.alloc (.cells #[.int .i64 (s.line : Int), .int .u64 (s.off : Int), .int .u64 (s.val : Int), .bool false] 57)).alloc (.cells #[.int .i64 (k : Int)] 3)
              have hB2 := (hB.alloc hB.size (.cells #[.int .i64 (s.line : Int), .int .u64 (s.off : Int), .int .u64 (s.val : Int), .bool false] 57)).alloc (by have := hB.size; simp; omega) (.cells #[.int .i64 (k : Int)] 3)
              have ht2 := (htk.alloc (.cells #[.int .i64 (s.line : Int), .int .u64 (s.off : Int), .int .u64 (s.val : Int), .bool false] 57)).alloc (.cells #[.int .i64 (k : Int)] 3)
              have hE2 := ((Has.new wr [.int .i64 (s.line : Int), .int .u64 (s.off : Int), .int .u64 (s.val : Int), .bool false] 57).alloc (.cells #[.int .i64 (k : Int)] 3))
              have hwl1 := htk.lt
              have howr := fun j (hj : Value.ownBlock (.slice oa xs.length oc) = some j) => ownsRow_lt hown hj
              replace hB2 := Lib.hid hB2
              replace ht2 := Lib.hid ht2
              replace hE2 := Lib.hid hE2
              replace howr := Lib.hid howr
              clear hown hB
              go_wp2_with (at_builtin; refine wpList_app rfl (.tmp 62) (.tmp 64) 33 rfl 3 (.int .i64 0) 1 8 Try.underlying33 info3 rfl (by decide) (by decide) oa xs.length oc (nats xs) (by exact ho2) rfl _ 1 1 [.int .i64 (k : Int)] rfl rfl (by exact news_at hN9) (by simp [Value.oneCell']) (by exact hby) ?_)
              intro oa' oc' w4 own4 only4 fresh4
              have hB4 := hB2.out.trans (only4.below (B := w.heap.size) (by have := hB2.out.size; simp at this ⊢; omega) (fun j _ hj => by have := hob j hj; omega))
              have ht4 := ht2.out.only only4 (fun e => by have := hob _ e; omega)
              have hE4 := hE2.out.only only4 (fun e => by have := howr.out _ e; omega)
              have hob4 : ∀ j, Value.ownBlock (.slice oa' (xs.length + 1) oc') = some j → w1.heap.size < j := by
                intro j hj
                rcases fresh4 j hj with h1 | h1
                · exact hob j h1
                · have h1 : wr.heap.size + 1 + 1 ≤ j := by simpa using h1
                  omega
              have hxl : (xs ++ [k]).length = xs.length + 1 := by simp
              replace hxl := Lib.hid hxl
              clear htk
              have y0 := hE4.cell (o := 0) rfl
              have ct4 := ht4.cell (o := s.line) (nats_get tk s.line v (by rw [← hv.out]; exact get_of_lt 0 (by omega)))
              have cf4 := ht4.free s.line
              have hset := ht4.set s.line (.int .i64 ((v : Int) - 1))
              have hOs := (Only.refl (fun j => j = w1.heap.size) w4).setCell (a := ⟨w1.heap.size, s.line, none⟩) (fun _ => rfl) (.int .i64 ((v : Int) - 1))
              have own5 := ownsRow_only own4 hOs (fun j hj e => by have := hob4 j hj; omega)
              have hB5 := hB4.trans (hOs.below hB4.size (fun q _ e => by omega))
              replace hset := Lib.hid hset
              replace hB5 := Lib.hid hB5
              replace own5 := Lib.hid own5
              clear hOs ht4 hE4 own4 only4 fresh4 hB4 ct
              go_wp2_with fail
              go_roundw
              case rel => exact ⟨k + 1, oa', oc', by omega, by go_num, by rw [hp.out]; simp, by rw [hp.out]; simpa [nats] using own5.out, by rw [hp.out]; show Has _ _ (nats (tk.set s.line (v - 1))) 3; rw [nats_set', hvs.out]; exact hset.out, hB5.out, by rw [hp.out, hxl.out]; exact hob4⟩
              case measure => (simp [intOf]) <;> omega
            · rw [if_neg hpos] at hp
              have dp : decide ((0 : Int) < ((tk.getD s.line 0 : Nat) : Int)) = false := decide_eq_false (by omega)
              generalize tk.getD s.line 0 = v at *
              replace hp := Lib.hid hp
              have hownA := hown.alloc (.cells #[.int .i64 (s.line : Int), .int .u64 (s.off : Int), .int .u64 (s.val : Int), .bool false] 57)
              have hBA := hB.alloc hB.size (.cells #[.int .i64 (s.line : Int), .int .u64 (s.off : Int), .int .u64 (s.val : Int), .bool false] 57)
              have htA := htk.alloc (.cells #[.int .i64 (s.line : Int), .int .u64 (s.off : Int), .int .u64 (s.val : Int), .bool false] 57)
              replace hownA := Lib.hid hownA
              replace hBA := Lib.hid hBA
              replace htA := Lib.hid htA
              clear hown htk hB
              go_wp2_with fail
              go_roundw
              case rel => exact ⟨k + 1, oa, oc, by omega, by go_num, by rw [hp.out], by rw [hp.out]; exact hownA.out, by rw [hp.out]; exact htA.out, hBA.out, by rw [hp.out]; exact hob⟩
              case measure => (simp [intOf]) <;> omega
        · obtain rfl : k = N := by omega
          have hbb : ∀ j, Value.ownBlock (.slice oa (pickK l T.1 k).1.length oc) = some j → w.heap.size ≤ j := fun j hj => by have := hob j hj; omega
          have hend : NewNats w (pickK l T.1 k).1 (.returned (.slice oa (pickK l T.1 k).1.length oc)) wr := ⟨oa, oc, rfl, hown, hB, hbb⟩
          rw [hpost.out] at hend
          replace hend := Lib.hid hend
          clear hown htk hB hob hbb
          go_wp2_with fail
          first | exact hend.out | (go_ret; exact hend.out)
end Go.Proofs.Ytpgjpoilcdkjgaa
