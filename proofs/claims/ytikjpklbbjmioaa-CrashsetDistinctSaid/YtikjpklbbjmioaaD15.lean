/- The program's device: bytesOf, Current, Persisted, History, Dirty. The program's device: Image. The program's device: the walk of Image. -/
import Derived.Test.YtikjpklbbjmioaaD12
import Derived.Test.YtikjpklbbjmioaaD9
/-! The program's device: bytesOf, Current, Persisted, History, Dirty. -/
namespace Go.Proofs.Ytikjpklbbjmioaa
open Go.RowKit Go.Maps
variable {w : World} {F : Own} {o T : Nat} {L : Lay} {R : Dv}

def bytesL (ws : List Nat) : List Nat := (List.range (ws.length * 8)).map fun i => ws.getD (i / 8) 0 / 2 ^ (i % 8 * 8) % 256
theorem bytesL_len (ws : List Nat) : (bytesL ws).length = ws.length * 8 := by simp [bytesL]
theorem bytesL_get (ws : List Nat) (i : Nat) (h : i < ws.length * 8) : (bytesL ws)[i]? = some (ws.getD (i / 8) 0 / 2 ^ (i % 8 * 8) % 256) := by
  unfold bytesL; rw [List.getElem?_map, List.getElem?_range h]; rfl
/-- The first k of these, and zeros behind. -/
def fillTo (bs : List Nat) (n k : Nat) : List Nat := bs.take k ++ List.replicate (n - k) 0
theorem fillTo_zero (bs : List Nat) (n : Nat) : fillTo bs n 0 = List.replicate n 0 := by simp [fillTo]
theorem fillTo_all (bs : List Nat) (n : Nat) (h : bs.length = n) : fillTo bs n n = bs := by simp [fillTo, ← h]
theorem fillTo_len (bs : List Nat) (n k : Nat) (h : bs.length = n) (hk : k ≤ n) : (fillTo bs n k).length = n := by simp [fillTo, h]; omega
theorem fillTo_set (bs : List Nat) (n k b : Nat) (h : bs.length = n) (hk : k < n) (hb : bs[k]? = some b) : (fillTo bs n k).set k b = fillTo bs n (k + 1) := by
  unfold fillTo
  have hl : (bs.take k).length = k := by rw [List.length_take]; omega
  rw [List.set_append_right _ _ (by omega), hl, Nat.sub_self, List.take_add_one, hb]
  obtain ⟨m, hm⟩ : ∃ m, n - k = m + 1 := ⟨n - k - 1, by omega⟩
  have hm2 : n - (k + 1) = m := by omega
  rw [hm, hm2, List.replicate_succ, List.set_cons_zero, Option.toList_some, List.append_assoc]; rfl
theorem u8s_set (l : List Nat) (i v : Nat) : u8s (l.set i v) = (u8s l).set i (.int .u8 (v : Int)) := by unfold u8s; rw [List.map_set]
theorem u8s_rep (n : Nat) : u8s (List.replicate n 0) = List.replicate n (.int .u8 0) := by simp [u8s]

def BytesPost (w : World) (bs : List Nat) (e : Ending) (w' : World) : Prop :=
  ∃ b, e = .returned (.slice (some ⟨b, 0, none⟩) bs.length bs.length) ∧ Has w' b (u8s bs) 5 ∧ Below w.heap.size w w' ∧ w.heap.size ≤ b
set_option maxHeartbeats 2000000 in
set_option maxRecDepth 100000 in
theorem bytesOf_any (w : World) (b0 off c : Nat) (ws : List Nat) (m : Nat) (hm : ws.length = m) (hr : Rd w (.slice (some ⟨b0, off, none⟩) m c) m (u64s ws)) (hl : m ≤ 1000000) (h1 : 1 ≤ m) (hlt : ∀ x ∈ ws, x < 18446744073709551616) :
    Calls Try.prog 77 #[.slice (some ⟨b0, off, none⟩) m c] w (BytesPost w (bytesL ws)) := by
  generalize hpost : BytesPost w (bytesL ws) = post
  have hbl : (bytesL ws).length = m * 8 := by rw [bytesL_len, hm]
  have hmk := make1 (P := Try.prog) 31 5 (.int .u8 0) 1 Try.underlying31 infoU8 rfl (m * 8) (by omega) (by omega) w
  rw [show ((m * 8 : Nat) : Int) = (m : Int) * 8 from by simp] at hmk
  have h0 : Has (w.alloc (.cells (Array.replicate (m * 8) (.int .u8 0)) 5)) w.heap.size (u8s (fillTo (bytesL ws) (m * 8) 0)) 5 := by
    rw [fillTo_zero, u8s_rep]; exact Has.rep _ _ _ _
  have hB0 := (Below.refl w.heap.size w).alloc (Nat.le_refl _) (.cells (Array.replicate (m * 8) (.int .u8 0)) 5)
  have hend : ∀ w', Has w' w.heap.size (u8s (bytesL ws)) 5 → Below w.heap.size w w' → post (.returned (.slice (some ⟨w.heap.size, 0, none⟩) (m * 8) (m * 8))) w' := by
    intro w' p1 p2
    rw [← hpost, ← hbl]; exact ⟨_, rfl, p1, p2, Nat.le_refl _⟩
  replace hend := Lib.hid hend
  replace hbl := Lib.hid hbl
  clear hpost
  replace hm := Lib.hid hm
  go_enter Try.func77, Try.ntmps77
  go_wp2_with fail
  go_loopw [11] (fun i wr => ∃ k : Nat, k ≤ m * 8 ∧ i = .int .i64 k ∧ Has wr w.heap.size (u8s (fillTo (bytesL ws) (m * 8) k)) 5 ∧ Below w.heap.size w wr) (fun i _ => m * 8 - (intOf i).toNat)
  case atStart => exact ⟨0, Nat.zero_le _, rfl, h0, hB0⟩
  case round =>
    clear h0 hB0 hmk
    obtain ⟨k, hk, rfl, hH, hB⟩ := hrel
    by_cases hlt2 : k < m * 8
    · have hkI : (k : Int) < (m : Int) * 8 := by omega
      have hk8I : ((k / 8 : Nat) : Int) < (m : Int) := by omega
      have hws : ws[k / 8]? = some (ws.getD (k / 8) 0) := get_of_lt 0 (by rw [hm.out]; omega)
      have hbg := bytesL_get ws k (by rw [hm.out]; omega)
      have hvl := hlt _ (List.mem_of_getElem? hws)
      obtain ⟨bl, ol, cl, ea, fa⟩ := (hr.kept hB).cells (by omega)
      simp only [Value.slice.injEq, Option.some.injEq, Addr.mk.injEq, true_and, and_true] at ea
      obtain ⟨⟨rfl, rfl⟩, rfl⟩ := ea
      have c0 : wr.cell? ⟨b0, off + k / 8, none⟩ = _ := fa _ _ (u64s_get ws _ _ hws)
      have hset := fillTo_set (bytesL ws) (m * 8) k _ hbl.out hlt2 hbg
      have hfl := fillTo_len (bytesL ws) (m * 8) k hbl.out (by omega)
      have cp := hH.cell (o := k) (u8s_get _ k _ (get_of_lt 0 (by rw [hfl]; exact hlt2)))
      have fp := hH.free k
      have hS := hH.set k (.int .u8 ((ws.getD (k / 8) 0 / 2 ^ (k % 8 * 8) % 256 : Nat) : Int))
      rw [← u8s_set, hset] at hS
      have hcast : ((ws.getD (k / 8) 0 / 2 ^ (k % 8 * 8) % 256 : Nat) : Int) = ((ws.getD (k / 8) 0 : Nat) : Int) / 2 ^ (k % 8 * 8) % 256 := by simp
      rw [hcast] at hS
      have hB2 := hB.setCell (p := ⟨w.heap.size, k, none⟩) (Nat.le_refl _) (.int .u8 (((ws.getD (k / 8) 0 : Nat) : Int) / 2 ^ (k % 8 * 8) % 256))
      replace hset := Lib.hid hset
      replace hfl := Lib.hid hfl
      replace hws := Lib.hid hws
      replace hbg := Lib.hid hbg
      replace hcast := Lib.hid hcast
      clear hH fa
      generalize (fillTo (bytesL ws) (m * 8) k).getD k 0 = old at *
      generalize ws.getD (k / 8) 0 = x at *
      go_wp2_with fail
      go_roundw
      case rel => exact ⟨k + 1, by omega, by go_num, hS, hB2⟩
      case measure => simp [intOf]; omega
    · obtain rfl : k = m * 8 := by omega
      rw [fillTo_all _ _ hbl.out] at hH
      have hx := Lib.hid (hend.out wr hH hB)
      clear hH
      go_wp2_with fail
      exact hx.out

theorem Dv.Ok.cur_lt (h : R.Ok T) : ∀ x ∈ R.curW, x < 18446744073709551616 := by
  intro x hx
  unfold Dv.curW at hx
  rw [List.mem_flatMap] at hx
  obtain ⟨l, hl, hx⟩ := hx
  obtain ⟨i, _, h1⟩ := h.at hl
  exact h1.words _ x hx
theorem Dv.Ok.per_lt (h : R.Ok T) : ∀ x ∈ R.perW, x < 18446744073709551616 := by
  intro x hx
  unfold Dv.perW at hx
  rw [List.mem_flatMap] at hx
  obtain ⟨l, hl, hx⟩ := hx
  obtain ⟨i, _, h1⟩ := h.at hl
  exact h1.bv x hx
theorem current_any (h : DevSt w F o L T R) : Calls Try.prog 65 #[.pointer (some ⟨L.g, 0, none⟩)] w (BytesPost w (bytesL R.curW)) := by
  generalize hpost : BytesPost w (bytesL R.curW) = post
  have c := h.dev.cell (o := 1) rfl
  have n1 := h.ok.n1
  have n2 := h.ok.n2
  have hb := Lib.hid (bytesOf_any w L.cb 0 L.cc R.curW (R.lines.length * 8) (by rw [h.ok.curLen]; omega) (Rd.of_own h.cur) (by omega) (by omega) h.ok.cur_lt)
  replace hpost := Lib.hid hpost
  clear h
  go_enter Try.func65, Try.ntmps65
  go_wp2_with fail
  refine hb.out.mono ?_
  rintro e w' ⟨b, rfl, hp⟩
  have hx : post (.returned (.slice (some ⟨b, 0, none⟩) (bytesL R.curW).length (bytesL R.curW).length)) w' := by rw [← hpost.out]; exact ⟨b, rfl, hp⟩
  replace hx := Lib.hid hx
  clear hp
  go_wp2_with fail
  exact hx.out
theorem persisted_any (h : DevSt w F o L T R) : Calls Try.prog 67 #[.pointer (some ⟨L.g, 0, none⟩)] w (BytesPost w (bytesL R.perW)) := by
  generalize hpost : BytesPost w (bytesL R.perW) = post
  have c := h.dev.cell (o := 0) rfl
  have n1 := h.ok.n1
  have n2 := h.ok.n2
  have hb := Lib.hid (bytesOf_any w L.pb 0 L.pc R.perW (R.lines.length * 8) (by rw [h.ok.perLen]; omega) (Rd.of_own h.per) (by omega) (by omega) h.ok.per_lt)
  replace hpost := Lib.hid hpost
  clear h
  go_enter Try.func67, Try.ntmps67
  go_wp2_with fail
  refine hb.out.mono ?_
  rintro e w' ⟨b, rfl, hp⟩
  have hx : post (.returned (.slice (some ⟨b, 0, none⟩) (bytesL R.perW).length (bytesL R.perW).length)) w' := by rw [← hpost.out]; exact ⟨b, rfl, hp⟩
  replace hx := Lib.hid hx
  clear hp
  go_wp2_with fail
  exact hx.out

theorem history_any (h : DevSt w F o L T R) {i : Nat} (hi : i < R.lines.length) : Calls Try.prog 42 #[.pointer (some ⟨L.g, 0, none⟩), .int .i64 (i : Int)] w (ClonePost w 144 2 (R.line i).hist.length (wcells (R.line i).hist)) := by
  generalize hpost : ClonePost w 144 2 (R.line i).hist.length (wcells (R.line i).hist) = post
  have d2 := h.dev.cell (o := 2) rfl
  obtain ⟨cs, hv', hL, hcl, hlin⟩ := h.lin
  obtain ⟨x0, x1, hsub, hrole⟩ := hlin _ hi
  have l1 := hL.cell x1
  have hiI : (i : Int) < (R.lines.length : Int) := by omega
  have hi0 : (0 : Int) ≤ (i : Int) := by omega
  have hhl := (h.ok.ln i hi).hl
  have ht := h.ok.t
  have hb := Lib.hid (cloneW_any w (hv' i) (R.line i).hist hsub (by omega))
  replace hpost := Lib.hid hpost
  clear h hlin hsub hL x0 x1 hcl hrole
  generalize hv' i = v at *
  go_enter Try.func42, Try.ntmps42
  go_wp2_with fail
  refine hb.out.mono ?_
  rintro e w' ⟨a, c, rfl, hp⟩
  have hx : post (.returned (.slice a (R.line i).hist.length c)) w' := by rw [← hpost.out]; exact ⟨a, c, rfl, hp⟩
  replace hx := Lib.hid hx
  clear hp
  go_wp2_with fail
  exact hx.out
theorem history_out (h : DevSt w F o L T R) (i : Int) (hi : i < 0 ∨ (R.lines.length : Int) ≤ i) : Calls Try.prog 42 #[.pointer (some ⟨L.g, 0, none⟩), .int .i64 i] w fun e w' => e = .returned (.slice none 0 0) ∧ w = w' := by
  have d2 := h.dev.cell (o := 2) rfl
  clear h
  by_cases h0 : i < 0
  · have e1 : decide (i < 0) = true := decide_eq_true h0
    go_enter Try.func42, Try.ntmps42
    go_wp2_with fail
    go_ret
    exact ⟨rfl, rfl⟩
  · have e1 : decide (i < 0) = false := decide_eq_false h0
    have e2 : (R.lines.length : Int) ≤ i := by omega
    go_enter Try.func42, Try.ntmps42
    go_wp2_with fail
    go_ret
    exact ⟨rfl, rfl⟩

def dirtyTo (R : Dv) (k : Nat) : List Nat := (List.range k).filter fun i => decide (0 < (R.line i).hist.length)
def dirtyL (R : Dv) : List Nat := dirtyTo R R.lines.length
theorem dirtyTo_succ (R : Dv) (k : Nat) : dirtyTo R (k + 1) = if 0 < (R.line k).hist.length then dirtyTo R k ++ [k] else dirtyTo R k := by
  unfold dirtyTo
  rw [List.range_succ, List.filter_append]
  by_cases h : 0 < (R.line k).hist.length
  · simp [h]
  · simp [h]
theorem dirtyTo_len (R : Dv) (k : Nat) : (dirtyTo R k).length ≤ k := by
  unfold dirtyTo; exact Nat.le_trans (List.length_filter_le _ _) (by simp)
theorem dirtyTo_mem {R : Dv} {k i : Nat} (h : i ∈ dirtyTo R k) : i < k ∧ 0 < (R.line i).hist.length := by
  unfold dirtyTo at h; simpa using h
theorem nats_len (l : List Nat) : (nats l).length = l.length := by simp [nats]
theorem nats_snoc (l : List Nat) (n : Nat) : nats (l ++ [n]) = nats l ++ [.int .i64 (n : Int)] := by simp [nats]
def NewNats (w : World) (xs : List Nat) (e : Ending) (w' : World) : Prop :=
  ∃ a c, e = .returned (.slice a xs.length c) ∧ w'.ownsRow 0 3 1 (.slice a xs.length c) xs.length (nats xs) ∧ Below w.heap.size w w' ∧ ∀ k, Value.ownBlock (.slice a xs.length c) = some k → w.heap.size ≤ k
set_option maxHeartbeats 2000000 in
set_option maxRecDepth 100000 in
theorem dirty_any (h : DevSt w F o L T R) : Calls Try.prog 68 #[.pointer (some ⟨L.g, 0, none⟩)] w (NewNats w (dirtyL R)) := by
  generalize hpost : NewNats w (dirtyL R) = post
  have hn2 := h.ok.n2
  have d2 := h.dev.cell (o := 2) rfl
  obtain ⟨cs, hv', hL, hcl, hlin⟩ := h.lin
  have hlt2 := h.dev.lt
  have hLlt := hL.lt
  replace hpost := Lib.hid hpost
  replace hcl := Lib.hid hcl
  clear h
  have hi0 : w.ownsRow 0 3 1 (.slice none 0 0) 0 (nats (dirtyTo R 0)) := World.ownsRow_nil _ _ _ _
  go_enter Try.func68, Try.ntmps68
  go_wp2_with fail
  go_loopw [3, 12] (fun v i wr => ∃ (k : Nat) (a : Option Addr) (c : Nat), k ≤ R.lines.length ∧ i = .int .i64 k ∧ v = .slice a (dirtyTo R k).length c ∧ wr.ownsRow 0 3 1 (.slice a (dirtyTo R k).length c) (dirtyTo R k).length (nats (dirtyTo R k)) ∧ Below w.heap.size w wr ∧ ∀ j, Value.ownBlock (.slice a (dirtyTo R k).length c) = some j → w.heap.size ≤ j) (fun _ i _ => R.lines.length - (intOf i).toNat)
  case atStart => exact ⟨0, none, 0, Nat.zero_le _, rfl, rfl, hi0, Below.refl _ _, fun j hj => by cases hj⟩
  case round =>
    clear hi0
    obtain ⟨k, a, c, hk, rfl, rfl, hown, hB, hfr⟩ := hrel
    by_cases hlt : k < R.lines.length
    · have hkI : (k : Int) < (R.lines.length : Int) := by omega
      have hk0 : (0 : Int) ≤ (k : Int) := by omega
      obtain ⟨x0, x1, hsub, hrole⟩ := hlin _ hlt
      obtain ⟨va, vc, hva⟩ := hsub.slice
      have hLr := hL.only (Only.of_below hB) (by omega)
      have l1 := hLr.cell x1
      rw [hva] at l1
      have d2r := (Only.of_below hB).cell d2 (by show ¬ w.heap.size ≤ L.g; omega)
      have hsucc := dirtyTo_succ R k
      have hdl := dirtyTo_len R k
      replace hva := Lib.hid hva
      clear hLr hsub hrole x0 x1
      by_cases hq : 0 < (R.line k).hist.length
      · have hqI : (0 : Int) < ((R.line k).hist.length : Int) := by omega
        rw [if_pos hq] at hsucc
        replace hsucc := Lib.hid hsucc
        generalize hdd : dirtyTo R k = ds at *
        replace hdd := Lib.hid hdd
        have hby : (ds.length + 1) * 8 ≤ 140737488355328 := by omega
        go_wp2_with (at_builtin; refine wpList_app1 rfl (.tmp 25) (.tmp 27) 65 rfl 3 (.int .i64 0) 8 Try.underlying65 infoInt rfl (by decide) a ds.length c (nats ds) rfl (.int .i64 (k : Int)) _ _ rfl rfl hown _ rfl rfl (by simp [Value.oneCell']) hby ?_; intro sa cap w1 own1 only1 fresh1)
        have hB1 : Below w.heap.size w w1 := hB.trans (only1.below (B := w.heap.size) hB.size (fun j _ e => hfr j e))
        have hfr1 : ∀ j, Value.ownBlock (.slice sa (ds.length + 1) cap) = some j → w.heap.size ≤ j := by
          intro j hj
          have hs := hB.size
          rcases fresh1 j hj with h1 | h1
          · exact hfr j h1
          · omega
        have hrel : ∃ (k' : Nat) (a' : Option Addr) (c' : Nat), k' ≤ R.lines.length ∧ Value.int .i64 ((k : Int) + 1) = .int .i64 k' ∧ Value.slice sa (ds.length + 1) cap = .slice a' (dirtyTo R k').length c' ∧ w1.ownsRow 0 3 1 (.slice a' (dirtyTo R k').length c') (dirtyTo R k').length (nats (dirtyTo R k')) ∧ Below w.heap.size w w1 ∧ ∀ j, Value.ownBlock (.slice a' (dirtyTo R k').length c') = some j → w.heap.size ≤ j := by
          refine ⟨k + 1, sa, cap, by omega, by go_num, ?_, ?_, hB1, ?_⟩
          · rw [hsucc.out]; simp
          · rw [hsucc.out, nats_snoc]; simpa using own1
          · rw [hsucc.out]; simpa using hfr1
        replace hrel := Lib.hid hrel
        clear own1 only1 fresh1 hown hfr hfr1 hB1
        go_wp2_with fail
        go_roundw
        case rel => exact hrel.out
        case measure => simp [intOf]; omega
      · have hqI : ¬ (0 : Int) < ((R.line k).hist.length : Int) := by omega
        rw [if_neg hq] at hsucc
        replace hsucc := Lib.hid hsucc
        go_wp2_with fail
        go_roundw
        case rel => exact ⟨k + 1, a, c, by omega, by go_num, by rw [hsucc.out], by rw [hsucc.out]; exact hown, hB, by rw [hsucc.out]; exact hfr⟩
        case measure => simp [intOf]; omega
    · obtain rfl : k = R.lines.length := by omega
      have hx : post (.returned (.slice a (dirtyTo R R.lines.length).length c)) wr := by rw [← hpost.out]; exact ⟨a, c, rfl, hown, hB, hfr⟩
      replace hx := Lib.hid hx
      clear hown hfr
      go_wp2_with fail
      exact hx.out
end Go.Proofs.Ytikjpklbbjmioaa

/-! The program's device: Image. -/
namespace Go.Proofs.Ytikjpklbbjmioaa
open Go.RowKit Go.Maps
variable {w : World} {F : Own} {o T : Nat} {L : Lay} {R : Dv}

/-! ### crash images as words -/
def crashLs (R : Dv) (kf : Nat → Nat) : List Ln := (List.range R.lines.length).map fun l => ⟨wordsL (R.line l) (kf l), [], 0⟩
def crashW (R : Dv) (kf : Nat → Nat) : List Nat := (crashLs R kf).flatMap Ln.base
theorem crashLs_len (R : Dv) (kf : Nat → Nat) : (crashLs R kf).length = R.lines.length := by simp [crashLs]
theorem crashLs_get (R : Dv) (kf : Nat → Nat) (l : Nat) (h : l < R.lines.length) : (crashLs R kf)[l]? = some ⟨wordsL (R.line l) (kf l), [], 0⟩ := by
  unfold crashLs; rw [List.getElem?_map, List.getElem?_range h]; rfl
theorem crashLs_8 (h : R.Ok T) (kf : Nat → Nat) : ∀ l ∈ crashLs R kf, (Ln.base l).length = 8 := by
  intro l hl
  unfold crashLs at hl
  simp only [List.mem_map, List.mem_range] at hl
  obtain ⟨i, hi, rfl⟩ := hl
  show (wordsL _ _).length = 8
  rw [wordsL_len]; exact (h.ln i hi).b
theorem crashW_len (h : R.Ok T) (kf : Nat → Nat) : (crashW R kf).length = R.lines.length * 8 := by
  unfold crashW; rw [flat_len _ _ (crashLs_8 h kf), crashLs_len]; omega
theorem crashW_lt (h : R.Ok T) (kf : Nat → Nat) : ∀ x ∈ crashW R kf, x < 18446744073709551616 := by
  intro x hx
  unfold crashW crashLs at hx
  simp only [List.mem_flatMap, List.mem_map, List.mem_range] at hx
  obtain ⟨l, ⟨i, hi, rfl⟩, hx⟩ := hx
  exact (h.ln i hi).words _ x hx
theorem crashW_congr (R : Dv) (kf kf' : Nat → Nat) (h : ∀ l, l < R.lines.length → wordsL (R.line l) (kf l) = wordsL (R.line l) (kf' l)) : crashW R kf = crashW R kf' := by
  unfold crashW crashLs
  congr 1
  apply List.map_congr_left
  intro l hl
  rw [h l (by simpa using hl)]
theorem crashW_zero (R : Dv) : crashW R (fun _ => 0) = R.perW := by
  unfold crashW crashLs Dv.perW
  rw [List.flatMap_def, List.flatMap_def, List.map_map]
  congr 1
  apply List.ext_getElem?
  intro i
  rcases Nat.lt_or_ge i R.lines.length with h | h
  · rw [List.getElem?_map, List.getElem?_range h, List.getElem?_map, R.line_get h]; rfl
  · rw [List.getElem?_eq_none (by simpa using h), List.getElem?_eq_none (by simpa using h)]
theorem crashW_all (R : Dv) : crashW R (fun l => (R.line l).hist.length) = R.curW := by
  unfold crashW crashLs Dv.curW
  rw [List.flatMap_def, List.flatMap_def, List.map_map]
  congr 1
  apply List.ext_getElem?
  intro i
  rcases Nat.lt_or_ge i R.lines.length with h | h
  · rw [List.getElem?_map, List.getElem?_range h, List.getElem?_map, R.line_get h]; rfl
  · rw [List.getElem?_eq_none (by simpa using h), List.getElem?_eq_none (by simpa using h)]
theorem crash_set (h : R.Ok T) (kf kf' : Nat → Nat) (n : Nat) (hn : n < R.lines.length) (he : ∀ l, l < R.lines.length → l ≠ n → wordsL (R.line l) (kf' l) = wordsL (R.line l) (kf l)) (h0 : kf n = 0) :
    crashW R kf' = ((R.line n).hist.take (kf' n)).foldl setA (crashW R kf) := by
  have e : crashLs R kf' = (crashLs R kf).set n ⟨wordsL (R.line n) (kf' n), [], 0⟩ := by
    apply List.ext_getElem?
    intro l
    by_cases hl : l < R.lines.length
    · rw [crashLs_get R kf' l hl, List.getElem?_set]
      by_cases e : n = l
      · subst e; rw [if_pos rfl, if_pos (by rw [crashLs_len]; exact hl)]
      · rw [if_neg e, crashLs_get R kf l hl, he l hl (fun h => e h.symm)]
    · rw [List.getElem?_eq_none (by rw [crashLs_len]; omega), List.getElem?_eq_none (by simp [crashLs_len]; omega)]
  have hg := crashLs_get R kf n hn
  have := persist_per (crashLs R kf) (crashLs_8 h kf) n (by rw [crashLs_len]; exact hn) ((R.line n).hist.take (kf' n)) (fun p hp => ((h.ln n hn).h p (List.mem_of_mem_take hp)).1)
    ⟨wordsL (R.line n) (kf n), [], 0⟩ (by show (wordsL _ _).length = 8; rw [wordsL_len]; exact (h.ln n hn).b) ⟨wordsL (R.line n) (kf' n), [], 0⟩ (by rw [h0]; rfl)
  unfold crashW
  rw [e, this]
  congr 1
  have e2 : (crashLs R kf).set n ⟨wordsL (R.line n) (kf n), [], 0⟩ = crashLs R kf := by
    have := set_getD_self (crashLs R kf) n ln0
    rw [getD_of ln0 hg] at this
    exact this
  rw [e2]
/-- How many stores a choice takes of a line. -/
def chK (R : Dv) (ch : List Nat) (l : Nat) : Nat := if ch = [] then 0 else ch.getD ((dirtyTo R l).length % ch.length) 0 % ((R.line l).hist.length + 1)
def chJ (R : Dv) (ch : List Nat) (j l : Nat) : Nat := if (dirtyTo R l).length < j then chK R ch l else 0
def imageW (R : Dv) (ch : List Nat) : List Nat := crashW R (chK R ch)
theorem chK_le (R : Dv) (ch : List Nat) (l : Nat) : chK R ch l ≤ (R.line l).hist.length := by
  unfold chK
  split
  · omega
  · have := Nat.mod_lt (ch.getD ((dirtyTo R l).length % ch.length) 0) (show 0 < (R.line l).hist.length + 1 by omega); omega
theorem dirtyTo_mono {R : Dv} {a b : Nat} (h : a ≤ b) : ∃ t, dirtyTo R b = dirtyTo R a ++ t := by
  induction b with
  | zero => obtain rfl : a = 0 := by omega
            exact ⟨[], by simp⟩
  | succ b ih =>
    rcases Nat.lt_or_ge b a with h1 | h1
    · obtain rfl : a = b + 1 := by omega
      exact ⟨[], by simp⟩
    · obtain ⟨t, ht⟩ := ih h1
      rw [dirtyTo_succ, ht]
      split
      · exact ⟨t ++ [b], by rw [List.append_assoc]⟩
      · exact ⟨t, rfl⟩
/-- The place of a line among the dirty ones. -/
theorem dirty_at {R : Dv} {j n : Nat} (h : (dirtyL R)[j]? = some n) : (dirtyTo R n).length = j ∧ n < R.lines.length ∧ 0 < (R.line n).hist.length := by
  have hm := dirtyTo_mem (List.mem_of_getElem? h)
  obtain ⟨t, ht⟩ := dirtyTo_mono (R := R) (show n + 1 ≤ R.lines.length by omega)
  have hs := dirtyTo_succ R n
  rw [if_pos hm.2] at hs
  refine ⟨?_, hm⟩
  unfold dirtyL at h
  have hnd : (dirtyTo R R.lines.length).Nodup := List.nodup_range.sublist List.filter_sublist
  have h2 : (dirtyTo R R.lines.length)[(dirtyTo R n).length]? = some n := by
    rw [ht, hs, List.append_assoc, List.getElem?_append_right (Nat.le_refl _)]; simp
  have hj : j < (dirtyTo R R.lines.length).length := by
    rcases Nat.lt_or_ge j (dirtyTo R R.lines.length).length with h1 | h1
    · exact h1
    · rw [List.getElem?_eq_none h1] at h; cases h
  exact ((List.getElem?_inj hj hnd).1 (h.trans h2.symm)).symm
theorem dirty_lt {R : Dv} {l : Nat} (hl : l < R.lines.length) (hd : 0 < (R.line l).hist.length) : (dirtyTo R l).length < (dirtyL R).length := by
  obtain ⟨t, ht⟩ := dirtyTo_mono (R := R) (show l + 1 ≤ R.lines.length by omega)
  have hs := dirtyTo_succ R l
  rw [if_pos hd] at hs
  unfold dirtyL
  rw [ht, hs]; simp
theorem dirty_place {R : Dv} {l : Nat} (hl : l < R.lines.length) (hd : 0 < (R.line l).hist.length) : (dirtyL R)[(dirtyTo R l).length]? = some l := by
  obtain ⟨t, ht⟩ := dirtyTo_mono (R := R) (show l + 1 ≤ R.lines.length by omega)
  have hs := dirtyTo_succ R l
  rw [if_pos hd] at hs
  unfold dirtyL
  rw [ht, hs, List.append_assoc, List.getElem?_append_right (Nat.le_refl _)]; simp
theorem chJ_step (h : R.Ok T) (ch : List Nat) {j n : Nat} (hd : (dirtyL R)[j]? = some n) : crashW R (chJ R ch (j + 1)) = ((R.line n).hist.take (chK R ch n)).foldl setA (crashW R (chJ R ch j)) := by
  obtain ⟨h1, h2, h3⟩ := dirty_at hd
  have := crash_set h (chJ R ch j) (chJ R ch (j + 1)) n h2 ?_ ?_
  · have e : chJ R ch (j + 1) n = chK R ch n := by unfold chJ; rw [h1, if_pos (by omega)]
    rw [e] at this; exact this
  · intro l hl hne
    by_cases hc : 0 < (R.line l).hist.length
    · have : (dirtyTo R l).length ≠ j := by
        intro e
        have h4 := dirty_place hl hc
        rw [e, hd] at h4
        exact hne (Option.some.inj h4).symm
      unfold chJ
      by_cases hlt : (dirtyTo R l).length < j
      · rw [if_pos (by omega), if_pos hlt]
      · rw [if_neg (by omega), if_neg hlt]
    · have e0 : (R.line l).hist = [] := List.eq_nil_of_length_eq_zero (by omega)
      unfold wordsL; rw [e0]; simp
  · unfold chJ; rw [h1, if_neg (by omega)]
theorem chJ_zero (R : Dv) (ch : List Nat) : crashW R (chJ R ch 0) = R.perW := by
  rw [← crashW_zero]; exact crashW_congr _ _ _ (fun l _ => by unfold chJ; rw [if_neg (by omega)])
theorem chJ_all (R : Dv) (ch : List Nat) : crashW R (chJ R ch (dirtyL R).length) = imageW R ch := by
  refine crashW_congr _ _ _ (fun l hl => ?_)
  by_cases hc : 0 < (R.line l).hist.length
  · unfold chJ; rw [if_pos (dirty_lt hl hc)]
  · have e0 : (R.line l).hist = [] := List.eq_nil_of_length_eq_zero (by omega)
    unfold wordsL; rw [e0]; simp
theorem imageW_nil (R : Dv) : imageW R [] = R.perW := by
  rw [← crashW_zero]; exact crashW_congr _ _ _ (fun l _ => by unfold chK; rw [if_pos rfl])
theorem SubV.takeRd {w : World} {T : TypeId} {a : Option Addr} {c k : Nat} {ps : List (Nat × Nat)} (h : SubV w T 2 (.slice a ps.length c) ps.length (wcells ps)) (hk : k ≤ ps.length) : Rd w (.slice a k c) k (wcells (ps.take k)) := by
  obtain ⟨a', c', e1, h2⟩ := h.rd
  simp only [Value.slice.injEq, true_and] at e1
  obtain ⟨rfl, rfl⟩ := e1
  refine ⟨_, _, rfl, ?_⟩
  rcases h2 with ⟨h3, _⟩ | ⟨b', o', h3, h4⟩
  · exact .inl ⟨by omega, by rw [List.length_eq_zero_iff.1 (show (ps.take k).length = 0 by rw [List.length_take]; omega)]; rfl⟩
  · refine .inr ⟨b', o', h3, fun j u hj => h4 j u ?_⟩
    rw [← wcells_take, List.getElem?_take] at hj
    split at hj
    · exact hj
    · cases hj
end Go.Proofs.Ytikjpklbbjmioaa

/-! The program's device: the walk of Image. -/
namespace Go.Proofs.Ytikjpklbbjmioaa
open Go.RowKit Go.Maps
variable {w : World} {F : Own} {o T : Nat} {L : Lay} {R : Dv}

/-- The roles of blocks that are not there yet may be forgotten. -/
def Own.trim (F : Own) (w : World) : Own := fun k => if k < w.heap.size then F k else none
theorem Own.trim_ext (F : Own) (w : World) : Ext w F (F.trim w) := fun _ hk => if_pos hk
theorem Own.trim_new (F : Own) (w : World) {k : Nat} (h : w.heap.size ≤ k) : F.trim w k = none := if_neg (by omega)
theorem DevSt.trim (h : DevSt w F o L T R) : DevSt w (F.trim w) o L T R := h.kept (Only.refl (fun _ => False) _) (F.trim_ext w) (fun _ _ s => s.elim)

set_option maxHeartbeats 4000000 in
set_option maxRecDepth 100000 in
theorem image_any (h : DevSt w F o L T R) (ca : Option Addr) (cc : Nat) (ch : List Nat) (hch : Rd w (.slice ca ch.length cc) ch.length (u8s ch)) (hcl : ch.length ≤ 9223372036854775807) (hc8 : ∀ x ∈ ch, x < 256) :
    Calls Try.prog 33 #[.pointer (some ⟨L.g, 0, none⟩), .slice ca ch.length cc] w (BytesPost w (bytesL (imageW R ch))) := by
  generalize hpost : BytesPost w (bytesL (imageW R ch)) = post
  have n1 := h.ok.n1
  have n2 := h.ok.n2
  have hok := h.ok
  have ht100 := h.ok.t
  have d0 := h.dev.cell (o := 0) rfl
  have d2 := h.dev.cell (o := 2) rfl
  have hpl : R.perW.length = R.lines.length * 8 := by rw [h.ok.perLen]; omega
  have hcu := cloneU_any w L.pb 0 L.pc R.perW (by rw [hpl]; exact Rd.of_own h.per) (by rw [hpl]; omega)
  rw [hpl] at hcu
  replace hcu := Lib.hid hcu
  replace hpl := Lib.hid hpl
  have hend : ∀ (w1 : World) (b c : Nat), w1.ownsRow 0 22 1 (.slice (some ⟨b, 0, none⟩) (R.lines.length * 8) c) (R.lines.length * 8) (u64s (imageW R ch)) → Below w.heap.size w w1 →
      Calls Try.prog 77 #[.slice (some ⟨b, 0, none⟩) (R.lines.length * 8) c] w1 (fun e w' => ∃ v, e = .returned v ∧ post (.returned v) w') := by
    intro w1 b c hown hB
    refine (bytesOf_any w1 b 0 c (imageW R ch) (R.lines.length * 8) (crashW_len hok _) (Rd.of_own hown) (by omega) (by omega) (crashW_lt hok _)).mono ?_
    rintro e w' ⟨g, rfl, p1, p2, p3⟩
    refine ⟨_, rfl, ?_⟩
    rw [← hpost]
    exact ⟨g, rfl, p1, hB.trans (p2.mono hB.size), Nat.le_trans hB.size p3⟩
  replace hend := Lib.hid hend
  clear hpost
  have hFb := fun k hk => F.trim_new w (k := k) hk
  have h := h.trim
  generalize F.trim w = F1 at *
  replace h := Lib.hid h
  go_enter Try.func33, Try.ntmps33
  go_wp2_with fail
  refine hcu.out.mono ?_
  rintro e w1 ⟨a1, c1, rfl, hown1, hB1, hfr1⟩
  obtain ⟨b1, ha1⟩ : ∃ b1, a1 = some ⟨b1, 0, none⟩ := by
    rcases hown1.2 with ⟨_, h2⟩ | ⟨g, cap, cur, h2, _⟩
    · omega
    · simp only [Value.slice.injEq] at h2; exact ⟨g, h2.1⟩
  subst ha1
  have hb1 := hfr1 b1 rfl
  have hb1l := ownsRow_lt hown1 (k := b1) rfl
  have hR1 : DevSt w1 F1 o L T R := h.out.below hB1
  have hch1 := hch.kept hB1
  replace hR1 := Lib.hid hR1
  clear hcu hfr1
  by_cases h0 : ch.length = 0
  · have hi0 : imageW R ch = R.perW := by rw [List.length_eq_zero_iff.1 h0, imageW_nil]
    have hl0 : (0 : Int) < ((ch.length : Nat) : Int) → False := by omega
    have hln : ¬ (0 : Int) < ((ch.length : Nat) : Int) := by omega
    have hbo := hend.out w1 b1 c1 (by rw [hi0]; exact hown1) hB1
    replace hbo := Lib.hid hbo
    replace h0 := Lib.hid h0
    replace hi0 := Lib.hid hi0
    clear hown1 hend hl0
    go_wp2_with fail
    refine hbo.out.mono ?_
    rintro e w' ⟨v, rfl, hp⟩
    replace hp := Lib.hid hp
    go_wp2_with fail
    exact hp.out
  · have hlI : (0 : Int) < ((ch.length : Nat) : Int) := by omega
    have hlI2 : (1 : Int) ≤ ((ch.length : Nat) : Int) := by omega
    have hdy := dirty_any hR1.out
    replace hdy := Lib.hid hdy
    go_wp2_with fail
    refine hdy.out.mono ?_
    rintro e w2 ⟨da, dc, rfl, hown2, hB2, hfr2⟩
    have hB02 : Below w.heap.size w w2 := hB1.trans (hB2.mono hB1.size)
    have how0 : w2.ownsRow 0 22 1 (.slice (some ⟨b1, 0, none⟩) (R.lines.length * 8) c1) (R.lines.length * 8) (u64s (crashW R (chJ R ch 0))) := by
      rw [chJ_zero]; exact ownsRow_only hown1 (Only.of_below hB2) (by intro k hk; cases hk; exact Nat.not_le.2 hb1l)
    have hrd2 := Rd.of_own hown2
    have hdl : (dirtyL R).length ≤ R.lines.length := dirtyTo_len R R.lines.length
    have hdne : ∀ k, Value.ownBlock (.slice da (dirtyL R).length dc) = some k → ¬ k = b1 := by intro k hk e; have := hfr2 k hk; omega
    have hs2 := hB2.size
    clear hown1 hdy hown2 hfr2
    go_wp2_with fail
    go_loopw [23] (fun i wr => ∃ j : Nat, j ≤ (dirtyL R).length ∧ i = .int .i64 j ∧ wr.ownsRow 0 22 1 (.slice (some ⟨b1, 0, none⟩) (R.lines.length * 8) c1) (R.lines.length * 8) (u64s (crashW R (chJ R ch j))) ∧ Only (fun k => k = b1) w2 wr) (fun i _ => (dirtyL R).length - (intOf i).toNat)
    case atStart => exact ⟨0, Nat.zero_le _, rfl, how0, Only.refl _ _⟩
    case round =>
      clear how0
      obtain ⟨j, hj, rfl, hown, hO⟩ := hrel
      have hBr : Below w.heap.size w wr := hB02.trans (hO.below (B := w.heap.size) hB02.size (by rintro k _ rfl; exact hb1))
      by_cases hlt : j < (dirtyL R).length
      · have hat := get_of_lt 0 hlt
        have hstep := chJ_step hok ch hat
        obtain ⟨hp1, hp2, hp3⟩ := dirty_at hat
        have hrd := hrd2.only hO hdne
        obtain ⟨bl, ol, cl, ea, fa⟩ := hrd.cells (by omega)
        simp only [Value.slice.injEq, true_and] at ea
        obtain ⟨rfl, hcap⟩ := ea
        replace hcap := Lib.hid hcap
        have cd : wr.cell? ⟨bl, ol + j, none⟩ = _ := fa _ _ (nats_get _ _ _ hat)
        generalize (dirtyL R).getD j 0 = n at *
        have hR : DevSt wr F1 o L T R := (hR1.out.below hB2).kept hO (Ext.refl _ _) (fun k r e e2 => by
          rw [e, hFb b1 hb1] at e2; cases e2)
        have d2r := hR.dev.cell (o := 2) rfl
        obtain ⟨cs, hv', hL, hcl2, hlin⟩ := hR.lin
        obtain ⟨x0, x1, hsub, hrole⟩ := hlin n hp2
        obtain ⟨va, vc, hva⟩ := hsub.slice
        have l1 := hL.cell x1
        rw [hva] at l1 hsub
        have hvb : ∀ k, Value.ownBlock (.slice va (R.line n).hist.length vc) = some k → ¬ k = b1 := by
          intro k hk e
          have := hrole k (by rw [hva]; exact hk)
          rw [e, hFb b1 hb1] at this; cases this
        have hchr := (hch.kept hBr)
        obtain ⟨bc, oc, cx, ec, fc⟩ := hchr.cells (by omega)
        simp only [Value.slice.injEq, true_and] at ec
        obtain ⟨rfl, hcap2⟩ := ec
        replace hcap2 := Lib.hid hcap2
        have hjm : j % ch.length < ch.length := Nat.mod_lt _ (by omega)
        have hatc := get_of_lt 0 hjm
        have cch : wr.cell? ⟨bc, oc + j % ch.length, none⟩ = _ := fc _ _ (u8s_get _ _ _ hatc)
        have hc256 := hc8 _ (List.mem_of_getElem? hatc)
        have hk : chK R ch n = ch.getD (j % ch.length) 0 % ((R.line n).hist.length + 1) := by
          unfold chK; rw [if_neg (fun e => h0 (by rw [e]; rfl)), hp1]
        have hhl := (hok.ln n hp2).hl
        have hkle := chK_le R ch n
        rw [hk] at hkle hstep
        have hkm : ch.getD (j % ch.length) 0 % ((R.line n).hist.length + 1) < (R.line n).hist.length + 1 := Nat.mod_lt _ (by omega)
        have hps : ∀ p ∈ (R.line n).hist.take (ch.getD (j % ch.length) 0 % ((R.line n).hist.length + 1)), p.1 / 8 < R.lines.length * 8 ∧ p.1 < 18446744073709551616 ∧ p.2 < 18446744073709551616 := fun p hp => by
          obtain ⟨q1, q2, q3⟩ := (hok.ln n hp2).h p (List.mem_of_mem_take hp); omega
        have hpl2 : ((R.line n).hist.take (ch.getD (j % ch.length) 0 % ((R.line n).hist.length + 1))).length = ch.getD (j % ch.length) 0 % ((R.line n).hist.length + 1) := by rw [List.length_take]; omega
        have hap := apply_any wr b1 c1 (R.lines.length * 8) _ hown va vc ((R.line n).hist.take (ch.getD (j % ch.length) 0 % ((R.line n).hist.length + 1))) (by rw [hpl2]; exact hsub.takeRd hkle) (by
          intro k hk'; exact hvb k (by cases va <;> simp [Value.ownBlock] at hk' ⊢; exact hk')) (by omega) (by omega) hps
        rw [hpl2, ← hstep] at hap
        have hjI : (j : Int) < ((dirtyL R).length : Int) := by omega
        have hnI : (n : Int) < (R.lines.length : Int) := by omega
        have hn0 : (0 : Int) ≤ (n : Int) := by omega
        have hvcI : (R.line n).hist.length ≤ vc := by
          rcases hsub.shape with ⟨h1, h2⟩ | ⟨_, _, _, h1, h2, _⟩
          · simp only [Value.slice.injEq] at h1; omega
          · simp only [Value.slice.injEq] at h1; omega
        have hmc : ((j % ch.length : Nat) : Int) < ((ch.length : Nat) : Int) := by omega
        replace hap := Lib.hid hap
        replace hk := Lib.hid hk
        replace hva := Lib.hid hva
        replace hat := Lib.hid hat
        replace hatc := Lib.hid hatc
        replace hpl2 := Lib.hid hpl2
        replace hp1 := Lib.hid hp1
        replace hstep := Lib.hid hstep
        clear hR hlin hsub hrole hL x0 x1 hown fa fc hps hchr hrd hcl2 hvb
        generalize ch.getD (j % ch.length) 0 = cv at *
        have hcvI : (cv : Int) < 256 := by omega
        have hkmI : (cv : Int) % (((R.line n).hist.length : Int) + 1) ≤ (vc : Int) := by have := Int.emod_lt_of_pos (cv : Int) (show (0 : Int) < ((R.line n).hist.length : Int) + 1 by omega); omega
        have hkm0 : 0 ≤ (cv : Int) % (((R.line n).hist.length : Int) + 1) := Int.emod_nonneg _ (by omega)
        go_wp2_with fail
        refine hap.out.mono ?_
        rintro e w3 ⟨rfl, hown3, hO3⟩
        have hO4 := hO.trans hO3
        replace hown3 := Lib.hid hown3
        go_wp2_with fail
        go_roundw
        case rel => exact ⟨j + 1, by omega, by go_num, hown3.out, hO4⟩
        case measure => simp [intOf]; omega
      · obtain rfl : j = (dirtyL R).length := by omega
        rw [chJ_all] at hown
        have hbo := hend.out wr b1 c1 hown hBr
        replace hbo := Lib.hid hbo
        clear hown hend
        go_wp2_with fail
        refine hbo.out.mono ?_
        rintro e w' ⟨v, rfl, hp⟩
        replace hp := Lib.hid hp
        go_wp2_with fail
        exact hp.out
end Go.Proofs.Ytikjpklbbjmioaa
