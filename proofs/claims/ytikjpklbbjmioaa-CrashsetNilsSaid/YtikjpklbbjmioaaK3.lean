/- crashset: the digits of a combination. -/
import Derived.Test.YtikjpklbbjmioaaK2
namespace Go.Proofs.Ytikjpklbbjmioaa
open Go.RowKit Go.Maps
variable {w : World} {F : Own} {o T : Nat} {R : Dv} {L : Lay}

/-- The digits of n in these bases, the last one first; and what is left of n. -/
def restR (R : Dv) : List Nat → Nat → Nat
  | [], n => n
  | l :: r, n => restR R r n / baseL R l
def digR (R : Dv) : List Nat → Nat → List Nat
  | [], _ => []
  | l :: r, n => restR R r n % baseL R l :: digR R r n
theorem digR_len (R : Dv) : ∀ (ds : List Nat) (n : Nat), (digR R ds n).length = ds.length
  | [], _ => rfl
  | l :: r, n => by rw [digR, List.length_cons, digR_len R r n, List.length_cons]
theorem digR_le (R : Dv) : ∀ (ds : List Nat) (n i : Nat) (l : Nat), ds[i]? = some l → (digR R ds n).getD i 0 ≤ (R.line l).hist.length
  | [], _, _, _, h => by simp at h
  | l :: r, n, 0, l', h => by
    simp at h; subst h
    have := Nat.mod_lt (restR R r n) (show 0 < baseL R l from Nat.succ_pos _)
    show restR R r n % baseL R l ≤ _
    unfold baseL at this ⊢; omega
  | l :: r, n, i + 1, l', h => digR_le R r n i l' (by simpa using h)
/-- The state of the loop: the digits from place k on are laid. -/
def digTo (R : Dv) (ds : List Nat) (n k : Nat) : List Nat := List.replicate k 0 ++ digR R (ds.drop k) n
theorem digTo_len (R : Dv) (ds : List Nat) (n k : Nat) (h : k ≤ ds.length) : (digTo R ds n k).length = ds.length := by
  unfold digTo; rw [List.length_append, List.length_replicate, digR_len, List.length_drop]; omega
theorem drop_cons (ds : List Nat) (k : Nat) (h : k < ds.length) : ds.drop k = ds.getD k 0 :: ds.drop (k + 1) := by
  rw [List.drop_eq_getElem_cons h, List.getD_eq_getElem?_getD, List.getElem?_eq_getElem h]; rfl
theorem digTo_step (R : Dv) (ds : List Nat) (n k : Nat) (h : k < ds.length) : (digTo R ds n (k + 1)).set k (restR R (ds.drop (k + 1)) n % baseL R (ds.getD k 0)) = digTo R ds n k := by
  unfold digTo
  rw [List.replicate_succ', List.append_assoc, List.set_append_right _ _ (by simp), List.length_replicate, Nat.sub_self, drop_cons ds k h]
  rfl
theorem rest_step (R : Dv) (ds : List Nat) (n k : Nat) (h : k < ds.length) : restR R (ds.drop k) n = restR R (ds.drop (k + 1)) n / baseL R (ds.getD k 0) := by
  rw [drop_cons ds k h]; rfl
theorem rest_le (R : Dv) : ∀ (ds : List Nat) (n : Nat), restR R ds n ≤ n
  | [], _ => Nat.le_refl _
  | l :: r, n => Nat.le_trans (Nat.div_le_self _ _) (rest_le R r n)
theorem nats_set (l : List Nat) (i v : Nat) : nats (l.set i v) = (nats l).set i (.int .i64 (v : Int)) := by unfold nats; rw [List.map_set]
/-- What split returns. -/
def SplitPost (w : World) (R : Dv) (n : Nat) (e : Ending) (w' : World) : Prop :=
  ∃ b, e = .returned (.tuple #[.slice (some ⟨b, 0, none⟩) (dirtyL R).length (dirtyL R).length, .bool (decide (restR R (dirtyL R) n = 0))]) ∧ Has w' b (nats (digR R (dirtyL R) n)) 3 ∧ Below w.heap.size w w' ∧ w.heap.size ≤ b
set_option maxHeartbeats 2000000 in
set_option maxRecDepth 100000 in
theorem split_any (hok : R.Ok T) {pv lv hv : Value} (hs : SetSt w R pv lv hv) (n : Nat) (hn : n < 18446744073709551616) : Calls Try.prog 49 #[.agg #[pv, lv, hv], .int .u64 (n : Int)] w (SplitPost w R n) := by
  generalize hpost : SplitPost w R n = post
  have ht := hok.t
  have hn2 := hok.n2
  have hdl : (dirtyL R).length ≤ R.lines.length := dirtyTo_len R R.lines.length
  have hdm : ∀ k, k < (dirtyL R).length → (dirtyL R)[k]? = some ((dirtyL R).getD k 0) ∧ baseL R ((dirtyL R).getD k 0) ≤ 100001 := fun k hk => by
    have h1 := get_of_lt 0 hk
    have h2 := (hok.ln _ (dirtyTo_mem (List.mem_of_getElem? h1)).1).hl
    refine ⟨h1, ?_⟩
    unfold baseL; omega
  have hds := digTo_step R (dirtyL R) n
  have hrs := rest_step R (dirtyL R) n
  have hrl := fun k => rest_le R ((dirtyL R).drop k) n
  have hdgl := digTo_len R (dirtyL R) n
  obtain ⟨⟨pb, rfl, hp⟩, ⟨la, lc, rfl, hl⟩, ⟨ha, hc, vs, rfl, hH, hr⟩⟩ := hs
  have hB0 : Below w.heap.size w (w.alloc (.cells #[.slice (some ⟨pb, 0, none⟩) (bytesL R.perW).length (bytesL R.perW).length, .slice la (dirtyL R).length lc, .slice ha (dirtyL R).length hc] 102)) := (Below.refl _ _).alloc (Nat.le_refl _) _
  have hr0 := hr
  have hHg := hH.2
  have h00 : digTo R (dirtyL R) n (dirtyL R).length = List.replicate (dirtyL R).length 0 := by unfold digTo; rw [List.drop_length]; simp [digR]
  have h0z : digTo R (dirtyL R) n 0 = digR R (dirtyL R) n := by unfold digTo; simp
  have hz0 : restR R ((dirtyL R).drop (dirtyL R).length) n = n := by rw [List.drop_length]; rfl
  have hfin : ∀ w', Has w' (w.heap.size + 1) (nats (digTo R (dirtyL R) n 0)) 3 → Below w.heap.size w w' → post (.returned (.tuple #[.slice (some ⟨w.heap.size + 1, 0, none⟩) (dirtyL R).length (dirtyL R).length, .bool (decide (restR R ((dirtyL R).drop 0) n = 0))])) w' := fun w' h1 h2 => by
    rw [← hpost]; rw [h0z] at h1; rw [List.drop_zero]; exact ⟨_, rfl, h1, h2, by omega⟩
  generalize dirtyL R = ds at *
  generalize (bytesL R.perW).length = np at *
  have hmk := make1 (P := Try.prog) 65 3 (.int .i64 0) 8 Try.underlying65 infoInt rfl ds.length (by omega) (by omega) (w.alloc (.cells #[.slice (some ⟨pb, 0, none⟩) np np, .slice la ds.length lc, .slice ha ds.length hc] 102))
  have hA0 := Has.rep (w.alloc (.cells #[.slice (some ⟨pb, 0, none⟩) np np, .slice la ds.length lc, .slice ha ds.length hc] 102)) ds.length (.int .i64 0) 3
  have hBx := hB0.alloc hB0.size (.cells (Array.replicate ds.length (.int .i64 0)) 3)
  have hBy := (Below.refl _ (w.alloc (.cells #[.slice (some ⟨pb, 0, none⟩) np np, .slice la ds.length lc, .slice ha ds.length hc] 102))).alloc (Nat.le_refl _) (.cells (Array.replicate ds.length (.int .i64 0)) 3)
  have hS := (Has.new w [.slice (some ⟨pb, 0, none⟩) np np, .slice la ds.length lc, .slice ha ds.length hc] 102)
  have hnz : nats (List.replicate ds.length 0) = List.replicate ds.length (.int .i64 0) := by simp [nats]
  simp only [World.size_alloc] at hA0
  replace hfin := Lib.hid hfin
  replace hds := Lib.hid hds
  replace hrs := Lib.hid hrs
  replace hrl := Lib.hid hrl
  replace hdgl := Lib.hid hdgl
  replace hdm := Lib.hid hdm
  replace hr0 := Lib.hid hr0
  replace hHg := Lib.hid hHg
  replace h00 := Lib.hid h00
  replace hz0 := Lib.hid hz0
  replace hA0 := Lib.hid hA0
  replace hBx := Lib.hid hBx
  replace hBy := Lib.hid hBy
  replace hS := Lib.hid hS
  replace hnz := Lib.hid hnz
  clear hp hl hH hr hok hB0 hpost h0z
  go_enter Try.func49, Try.ntmps49
  go_wp2_with fail
  go_loopw [1, 7] (fun nv iv wr => ∃ k : Nat, k ≤ ds.length ∧ iv = .int .i64 ((k : Int) - 1) ∧ nv = .int .u64 ((restR R (ds.drop k) n : Nat) : Int) ∧ Has wr (w.heap.size + 1) (nats (digTo R ds n k)) 3 ∧
      Has wr w.heap.size [.slice (some ⟨pb, 0, none⟩) np np, .slice la ds.length lc, .slice ha ds.length hc] 102 ∧ Below w.heap.size w wr) (fun _ iv _ => (intOf iv + 1).toNat)
  case atStart => exact ⟨ds.length, Nat.le_refl _, by first | rfl | (congr 1; omega), by rw [hz0.out], by rw [h00.out, hnz.out]; exact hA0.out, hS.out.alloc _, hBx.out⟩
  case round =>
    clear hA0 hBx hBy hmk h00 hz0
    obtain ⟨k, hk, rfl, rfl, hA, hSw, hB⟩ := hrel
    by_cases hk0 : 0 < k
    · obtain ⟨j, rfl⟩ : ∃ j, k = j + 1 := ⟨k - 1, by omega⟩
      have hj : j < ds.length := by omega
      have hcI : ((j + 1 : Nat) : Int) - 1 = (j : Int) := by omega
      rw [hcI]
      have hjI : decide ((0 : Int) ≤ (j : Int)) = true := decide_eq_true (by omega)
      have hj0 : (0 : Int) ≤ (j : Int) := by omega
      have hjl : (j : Int) < (ds.length : Int) := by omega
      obtain ⟨hdk, hdb⟩ := hdm.out j hj
      obtain ⟨xa, xc, hx, _⟩ := hHg.out j _ hdk
      obtain ⟨bl, ol, cl, ea, fa⟩ := (hr0.out.kept hB).cells (by omega)
      simp only [Value.slice.injEq, true_and] at ea
      obtain ⟨rfl, ea2⟩ := ea
      replace ea2 := Lib.hid ea2
      have ck := fa _ _ hx
      have hst := hds.out j hj
      have hrst := hrs.out j hj
      have hxl := hrl.out (j + 1)
      have hBb : baseL R (ds.getD j 0) = (R.line (ds.getD j 0)).hist.length + 1 := rfl
      have hdgl1 := hdgl.out (j + 1) hk
      have hS2 := hSw.cell (o := 2) rfl
      have cA := hA.cell (o := j) (nats_get _ j _ (get_of_lt 0 (by rw [hdgl1]; exact hj)))
      have fA := hA.free j
      generalize ds.getD j 0 = d at *
      rw [hBb] at hst hrst hdb
      generalize (R.line d).hist.length = hlen at *
      obtain ⟨x, hx0⟩ : ∃ x, x = restR R (ds.drop (j + 1)) n := ⟨_, rfl⟩
      rw [← hx0] at hst hrst hxl ⊢
      have hxb : x < 18446744073709551616 := by omega
      have hml := Nat.mod_lt x (show 0 < hlen + 1 by omega)
      have hdv := Nat.div_le_self x (hlen + 1)
      have cm : ((x % (hlen + 1) : Nat) : Int) = (x : Int) % ((hlen : Int) + 1) := by simp
      have cd : ((x / (hlen + 1) : Nat) : Int) = (x : Int) / ((hlen : Int) + 1) := by simp
      have e1 : 0 ≤ (x : Int) % ((hlen : Int) + 1) ∧ (x : Int) % ((hlen : Int) + 1) ≤ 100001 := by rw [← cm]; omega
      have e2 : 0 ≤ (x : Int) / ((hlen : Int) + 1) ∧ (x : Int) / ((hlen : Int) + 1) < 18446744073709551616 := by rw [← cd]; omega
      have e3 : (((hlen : Int) + 1) == 0) = false := beq_eq_false_iff_ne.2 (by omega)
      have e4 : ¬ ((hlen : Int) + 1 = 0) := by omega
      have hA2 := hA.set j (.int .i64 ((x % (hlen + 1) : Nat) : Int))
      rw [← nats_set, hst, cm] at hA2
      have hS3 : Has (wr.setCell ⟨w.heap.size + 1, j, none⟩ (.int .i64 ((x : Int) % ((hlen : Int) + 1)))) w.heap.size _ _ := hSw.set_ne (by show w.heap.size ≠ w.heap.size + 1; omega) _
      have hB3 := hB.setCell (p := ⟨w.heap.size + 1, j, none⟩) (by show w.heap.size ≤ w.heap.size + 1; omega) (.int .i64 ((x : Int) % ((hlen : Int) + 1)))
      have hlb : hlen ≤ 100000 := by omega
      have hrel : ∃ k' : Nat, k' ≤ ds.length ∧ Value.int .i64 ((j : Int) - 1) = .int .i64 ((k' : Int) - 1) ∧ Value.int .u64 ((x : Int) / ((hlen : Int) + 1)) = .int .u64 ((restR R (ds.drop k') n : Nat) : Int) ∧
          Has (wr.setCell ⟨w.heap.size + 1, j, none⟩ (.int .i64 ((x : Int) % ((hlen : Int) + 1)))) (w.heap.size + 1) (nats (digTo R ds n k')) 3 ∧
          Has (wr.setCell ⟨w.heap.size + 1, j, none⟩ (.int .i64 ((x : Int) % ((hlen : Int) + 1)))) w.heap.size [.slice (some ⟨pb, 0, none⟩) np np, .slice la ds.length lc, .slice (some ⟨bl, ol, none⟩) ds.length hc] 102 ∧
          Below w.heap.size w (wr.setCell ⟨w.heap.size + 1, j, none⟩ (.int .i64 ((x : Int) % ((hlen : Int) + 1)))) := ⟨j, by omega, rfl, by rw [hrst, cd], hA2, hS3, hB3⟩
      replace hrel := Lib.hid hrel
      replace cm := Lib.hid cm
      replace cd := Lib.hid cd
      replace hx0 := Lib.hid hx0
      clear hA2 hS3 hB3 hA hSw hB hst hrst hdgl1 hml hdv fa hx hdk hxl
      generalize (digTo R ds n (j + 1)).getD j 0 = old at *
      go_wp2_with fail
      refine ⟨hrel.out, ?_⟩
      show ((j : Int) - 1 + 1).toNat < ((j : Int) + 1).toNat
      omega
    · obtain rfl : k = 0 := by omega
      have hcI : ((0 : Nat) : Int) - 1 = -1 := by omega
      have hx := Lib.hid (hfin.out wr hA hB)
      generalize restR R (ds.drop 0) n = y at *
      have g0 : ((y : Int) == 0) = decide (y = 0) := by
        by_cases h : y = 0
        · subst h; rfl
        · rw [decide_eq_false h]; exact beq_eq_false_iff_ne.2 (by omega)
      clear hA hSw hB
      go_wp2_with fail
      exact hx.out
end Go.Proofs.Ytikjpklbbjmioaa
