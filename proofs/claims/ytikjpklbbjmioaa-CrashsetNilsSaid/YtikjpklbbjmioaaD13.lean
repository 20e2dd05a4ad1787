/- The program's device: bytesOf, Current, Persisted, History, Dirty. -/
import Derived.Test.YtikjpklbbjmioaaD12
import Derived.Test.YtikjpklbbjmioaaD9
namespace Go.Proofs.Ytikjpklbbjmioaa
open Go.RowKit Go.Maps
variable {w : World} {F : Own} {o T : Nat} {L : Lay} {R : Dv}

def bytesL (ws : List Nat) : List Nat := (List.range (ws.length * 8)).map fun i => ws.getD (i / 8) 0 / 2 ^ (i % 8 * 8) % 256
theorem bytesL_len (ws : List Nat) : (bytesL ws).length = ws.length * 8 := by simp [bytesL]
theorem bytesL_get (ws : List Nat) (i : Nat) (h : i < ws.length * 8) : (bytesL ws)[i]? = some (ws.getD (i / 8) 0 / 2 ^ (i % 8 * 8) % 256) := by
  unfold bytesL; rw [List.getElem?_map, List.getElem?_range h]; rfl
/-- The first k of these, and zeros behind. -/
def fillTo (bs : List Nat) (n k : Nat) : List Nat := bs.take k ++ List.replicate (n - k) 0
theorem fillTo_zero (bs : List Nat) (n : Nat) : fillTo bs n 0 = List.replicate n 0 := by simp [fillTo]
theorem fillTo_all (bs : List Nat) (n : Nat) (h : bs.length = n) : fillTo bs n n = bs := by simp [fillTo, ← h]
theorem fillTo_len (bs : List Nat) (n k : Nat) (h : bs.length = n) (hk : k ≤ n) : (fillTo bs n k).length = n := by simp [fillTo, h]; omega
theorem fillTo_set (bs : List Nat) (n k b : Nat) (h : bs.length = n) (hk : k < n) (hb : bs[k]? = some b) : (fillTo bs n k).set k b = fillTo bs n (k + 1) := by
  unfold fillTo
  have hl : (bs.take k).length = k := by rw [List.length_take]; omega
  rw [List.set_append_right _ _ (by omega), hl, Nat.sub_self, List.take_add_one, hb]
  obtain ⟨m, hm⟩ : ∃ m, n - k = m + 1 := ⟨n - k - 1, by omega⟩
  have hm2 : n - (k + 1) = m := by omega
  rw [hm, hm2, List.replicate_succ, List.set_cons_zero, Option.toList_some, List.append_assoc]; rfl
theorem u8s_set (l : List Nat) (i v : Nat) : u8s (l.set i v) = (u8s l).set i (.int .u8 (v : Int)) := by unfold u8s; rw [List.map_set]
theorem u8s_rep (n : Nat) : u8s (List.replicate n 0) = List.replicate n (.int .u8 0) := by simp [u8s]

def BytesPost (w : World) (bs : List Nat) (e : Ending) (w' : World) : Prop :=
  ∃ b, e = .returned (.slice (some ⟨b, 0, none⟩) bs.length bs.length) ∧ Has w' b (u8s bs) 5 ∧ Below w.heap.size w w' ∧ w.heap.size ≤ b
set_option maxHeartbeats 2000000 in
set_option maxRecDepth 100000 in
theorem bytesOf_any (w : World) (b0 off c : Nat) (ws : List Nat) (m : Nat) (hm : ws.length = m) (hr : Rd w (.slice (some ⟨b0, off, none⟩) m c) m (u64s ws)) (hl : m ≤ 1000000) (h1 : 1 ≤ m) (hlt : ∀ x ∈ ws, x < 18446744073709551616) :
    Calls Try.prog 77 #[.slice (some ⟨b0, off, none⟩) m c] w (BytesPost w (bytesL ws)) := by
  generalize hpost : BytesPost w (bytesL ws) = post
  have hbl : (bytesL ws).length = m * 8 := by rw [bytesL_len, hm]
  have hmk := make1 (P := Try.prog) 31 5 (.int .u8 0) 1 Try.underlying31 infoU8 rfl (m * 8) (by omega) (by omega) w
  rw [show ((m * 8 : Nat) : Int) = (m : Int) * 8 from by simp] at hmk
  have h0 : Has (w.alloc (.cells (Array.replicate (m * 8) (.int .u8 0)) 5)) w.heap.size (u8s (fillTo (bytesL ws) (m * 8) 0)) 5 := by
    rw [fillTo_zero, u8s_rep]; exact Has.rep _ _ _ _
  have hB0 := (Below.refl w.heap.size w).alloc (Nat.le_refl _) (.cells (Array.replicate (m * 8) (.int .u8 0)) 5)
  have hend : ∀ w', Has w' w.heap.size (u8s (bytesL ws)) 5 → Below w.heap.size w w' → post (.returned (.slice (some ⟨w.heap.size, 0, none⟩) (m * 8) (m * 8))) w' := by
    intro w' p1 p2
    rw [← hpost, ← hbl]; exact ⟨_, rfl, p1, p2, Nat.le_refl _⟩
  replace hend := Lib.hid hend
  replace hbl := Lib.hid hbl
  clear hpost
  replace hm := Lib.hid hm
  go_enter Try.func77, Try.ntmps77
  go_wp2_with fail
  go_loopw [11] (fun i wr => ∃ k : Nat, k ≤ m * 8 ∧ i = .int .i64 k ∧ Has wr w.heap.size (u8s (fillTo (bytesL ws) (m * 8) k)) 5 ∧ Below w.heap.size w wr) (fun i _ => m * 8 - (intOf i).toNat)
  case atStart => exact ⟨0, Nat.zero_le _, rfl, h0, hB0⟩
  case round =>
    clear h0 hB0 hmk
    obtain ⟨k, hk, rfl, hH, hB⟩ := hrel
    by_cases hlt2 : k < m * 8
    · have hkI : (k : Int) < (m : Int) * 8 := by omega
      have hk8I : ((k / 8 : Nat) : Int) < (m : Int) := by omega
      have hws : ws[k / 8]? = some (ws.getD (k / 8) 0) := get_of_lt 0 (by rw [hm.out]; omega)
      have hbg := bytesL_get ws k (by rw [hm.out]; omega)
      have hvl := hlt _ (List.mem_of_getElem? hws)
      obtain ⟨bl, ol, cl, ea, fa⟩ := (hr.kept hB).cells (by omega)
      simp only [Value.slice.injEq, Option.some.injEq, Addr.mk.injEq, true_and, and_true] at ea
      obtain ⟨⟨rfl, rfl⟩, rfl⟩ := ea
      have c0 : wr.cell? ⟨b0, off + k / 8, none⟩ = _ := fa _ _ (u64s_get ws _ _ hws)
      have hset := fillTo_set (bytesL ws) (m * 8) k _ hbl.out hlt2 hbg
      have hfl := fillTo_len (bytesL ws) (m * 8) k hbl.out (by omega)
      have cp := hH.cell (o := k) (u8s_get _ k _ (get_of_lt 0 (by rw [hfl]; exact hlt2)))
      have fp := hH.free k
      have hS := hH.set k (.int .u8 ((ws.getD (k / 8) 0 / 2 ^ (k % 8 * 8) % 256 : Nat) : Int))
      rw [← u8s_set, hset] at hS
      have hcast : ((ws.getD (k / 8) 0 / 2 ^ (k % 8 * 8) % 256 : Nat) : Int) = ((ws.getD (k / 8) 0 : Nat) : Int) / 2 ^ (k % 8 * 8) % 256 := by simp
      rw [hcast] at hS
      have hB2 := hB.setCell (p := ⟨w.heap.size, k, none⟩) (Nat.le_refl _) (.int .u8 (((ws.getD (k / 8) 0 : Nat) : Int) / 2 ^ (k % 8 * 8) % 256))
      replace hset := Lib.hid hset
      replace hfl := Lib.hid hfl
      replace hws := Lib.hid hws
      replace hbg := Lib.hid hbg
      replace hcast := Lib.hid hcast
      clear hH fa
      generalize (fillTo (bytesL ws) (m * 8) k).getD k 0 = old at *
      generalize ws.getD (k / 8) 0 = x at *
      go_wp2_with fail
      go_roundw
      case rel => exact ⟨k + 1, by omega, by go_num, hS, hB2⟩
      case measure => simp [intOf]; omega
    · obtain rfl : k = m * 8 := by omega
      rw [fillTo_all _ _ hbl.out] at hH
      have hx := Lib.hid (hend.out wr hH hB)
      clear hH
      go_wp2_with fail
      exact hx.out

theorem Dv.Ok.cur_lt (h : R.Ok T) : ∀ x ∈ R.curW, x < 18446744073709551616 := by
  intro x hx
  unfold Dv.curW at hx
  rw [List.mem_flatMap] at hx
  obtain ⟨l, hl, hx⟩ := hx
  obtain ⟨i, _, h1⟩ := h.at hl
  exact h1.words _ x hx
theorem Dv.Ok.per_lt (h : R.Ok T) : ∀ x ∈ R.perW, x < 18446744073709551616 := by
  intro x hx
  unfold Dv.perW at hx
  rw [List.mem_flatMap] at hx
  obtain ⟨l, hl, hx⟩ := hx
  obtain ⟨i, _, h1⟩ := h.at hl
  exact h1.bv x hx
theorem current_any (h : DevSt w F o L T R) : Calls Try.prog 65 #[.pointer (some ⟨L.g, 0, none⟩)] w (BytesPost w (bytesL R.curW)) := by
  generalize hpost : BytesPost w (bytesL R.curW) = post
  have c := h.dev.cell (o := 1) rfl
  have n1 := h.ok.n1
  have n2 := h.ok.n2
  have hb := Lib.hid (bytesOf_any w L.cb 0 L.cc R.curW (R.lines.length * 8) (by rw [h.ok.curLen]; omega) (Rd.of_own h.cur) (by omega) (by omega) h.ok.cur_lt)
  replace hpost := Lib.hid hpost
  clear h
  go_enter Try.func65, Try.ntmps65
  go_wp2_with fail
  refine hb.out.mono ?_
  rintro e w' ⟨b, rfl, hp⟩
  have hx : post (.returned (.slice (some ⟨b, 0, none⟩) (bytesL R.curW).length (bytesL R.curW).length)) w' := by rw [← hpost.out]; exact ⟨b, rfl, hp⟩
  replace hx := Lib.hid hx
  clear hp
  go_wp2_with fail
  exact hx.out
theorem persisted_any (h : DevSt w F o L T R) : Calls Try.prog 67 #[.pointer (some ⟨L.g, 0, none⟩)] w (BytesPost w (bytesL R.perW)) := by
  generalize hpost : BytesPost w (bytesL R.perW) = post
  have c := h.dev.cell (o := 0) rfl
  have n1 := h.ok.n1
  have n2 := h.ok.n2
  have hb := Lib.hid (bytesOf_any w L.pb 0 L.pc R.perW (R.lines.length * 8) (by rw [h.ok.perLen]; omega) (Rd.of_own h.per) (by omega) (by omega) h.ok.per_lt)
  replace hpost := Lib.hid hpost
  clear h
  go_enter Try.func67, Try.ntmps67
  go_wp2_with fail
  refine hb.out.mono ?_
  rintro e w' ⟨b, rfl, hp⟩
  have hx : post (.returned (.slice (some ⟨b, 0, none⟩) (bytesL R.perW).length (bytesL R.perW).length)) w' := by rw [← hpost.out]; exact ⟨b, rfl, hp⟩
  replace hx := Lib.hid hx
  clear hp
  go_wp2_with fail
  exact hx.out

theorem history_any (h : DevSt w F o L T R) {i : Nat} (hi : i < R.lines.length) : Calls Try.prog 42 #[.pointer (some ⟨L.g, 0, none⟩), .int .i64 (i : Int)] w (ClonePost w 144 2 (R.line i).hist.length (wcells (R.line i).hist)) := by
  generalize hpost : ClonePost w 144 2 (R.line i).hist.length (wcells (R.line i).hist) = post
  have d2 := h.dev.cell (o := 2) rfl
  obtain ⟨cs, hv', hL, hcl, hlin⟩ := h.lin
  obtain ⟨x0, x1, hsub, hrole⟩ := hlin _ hi
  have l1 := hL.cell x1
  have hiI : (i : Int) < (R.lines.length : Int) := by omega
  have hi0 : (0 : Int) ≤ (i : Int) := by omega
  have hhl := (h.ok.ln i hi).hl
  have ht := h.ok.t
  have hb := Lib.hid (cloneW_any w (hv' i) (R.line i).hist hsub (by omega))
  replace hpost := Lib.hid hpost
  clear h hlin hsub hL x0 x1 hcl hrole
  generalize hv' i = v at *
  go_enter Try.func42, Try.ntmps42
  go_wp2_with fail
  refine hb.out.mono ?_
  rintro e w' ⟨a, c, rfl, hp⟩
  have hx : post (.returned (.slice a (R.line i).hist.length c)) w' := by rw [← hpost.out]; exact ⟨a, c, rfl, hp⟩
  replace hx := Lib.hid hx
  clear hp
  go_wp2_with fail
  exact hx.out
theorem history_out (h : DevSt w F o L T R) (i : Int) (hi : i < 0 ∨ (R.lines.length : Int) ≤ i) : Calls Try.prog 42 #[.pointer (some ⟨L.g, 0, none⟩), .int .i64 i] w fun e w' => e = .returned (.slice none 0 0) ∧ w = w' := by
  have d2 := h.dev.cell (o := 2) rfl
  clear h
  by_cases h0 : i < 0
  · have e1 : decide (i < 0) = true := decide_eq_true h0
    go_enter Try.func42, Try.ntmps42
    go_wp2_with fail
    go_ret
    exact ⟨rfl, rfl⟩
  · have e1 : decide (i < 0) = false := decide_eq_false h0
    have e2 : (R.lines.length : Int) ≤ i := by omega
    go_enter Try.func42, Try.ntmps42
    go_wp2_with fail
    go_ret
    exact ⟨rfl, rfl⟩

def dirtyTo (R : Dv) (k : Nat) : List Nat := (List.range k).filter fun i => decide (0 < (R.line i).hist.length)
def dirtyL (R : Dv) : List Nat := dirtyTo R R.lines.length
theorem dirtyTo_succ (R : Dv) (k : Nat) : dirtyTo R (k + 1) = if 0 < (R.line k).hist.length then dirtyTo R k ++ [k] else dirtyTo R k := by
  unfold dirtyTo
  rw [List.range_succ, List.filter_append]
  by_cases h : 0 < (R.line k).hist.length
  · simp [h]
  · simp [h]
theorem dirtyTo_len (R : Dv) (k : Nat) : (dirtyTo R k).length ≤ k := by
  unfold dirtyTo; exact Nat.le_trans (List.length_filter_le _ _) (by simp)
theorem dirtyTo_mem {R : Dv} {k i : Nat} (h : i ∈ dirtyTo R k) : i < k ∧ 0 < (R.line i).hist.length := by
  unfold dirtyTo at h; simpa using h
theorem nats_len (l : List Nat) : (nats l).length = l.length := by simp [nats]
theorem nats_snoc (l : List Nat) (n : Nat) : nats (l ++ [n]) = nats l ++ [.int .i64 (n : Int)] := by simp [nats]
def NewNats (w : World) (xs : List Nat) (e : Ending) (w' : World) : Prop :=
  ∃ a c, e = .returned (.slice a xs.length c) ∧ w'.ownsRow 0 3 1 (.slice a xs.length c) xs.length (nats xs) ∧ Below w.heap.size w w' ∧ ∀ k, Value.ownBlock (.slice a xs.length c) = some k → w.heap.size ≤ k
set_option maxHeartbeats 2000000 in
set_option maxRecDepth 100000 in
theorem dirty_any (h : DevSt w F o L T R) : Calls Try.prog 68 #[.pointer (some ⟨L.g, 0, none⟩)] w (NewNats w (dirtyL R)) := by
  generalize hpost : NewNats w (dirtyL R) = post
  have hn2 := h.ok.n2
  have d2 := h.dev.cell (o := 2) rfl
  obtain ⟨cs, hv', hL, hcl, hlin⟩ := h.lin
  have hlt2 := h.dev.lt
  have hLlt := hL.lt
  replace hpost := Lib.hid hpost
  replace hcl := Lib.hid hcl
  clear h
  have hi0 : w.ownsRow 0 3 1 (.slice none 0 0) 0 (nats (dirtyTo R 0)) := World.ownsRow_nil _ _ _ _
  go_enter Try.func68, Try.ntmps68
  go_wp2_with fail
  go_loopw [3, 12] (fun v i wr => ∃ (k : Nat) (a : Option Addr) (c : Nat), k ≤ R.lines.length ∧ i = .int .i64 k ∧ v = .slice a (dirtyTo R k).length c ∧ wr.ownsRow 0 3 1 (.slice a (dirtyTo R k).length c) (dirtyTo R k).length (nats (dirtyTo R k)) ∧ Below w.heap.size w wr ∧ ∀ j, Value.ownBlock (.slice a (dirtyTo R k).length c) = some j → w.heap.size ≤ j) (fun _ i _ => R.lines.length - (intOf i).toNat)
  case atStart => exact ⟨0, none, 0, Nat.zero_le _, rfl, rfl, hi0, Below.refl _ _, fun j hj => by cases hj⟩
  case round =>
    clear hi0
    obtain ⟨k, a, c, hk, rfl, rfl, hown, hB, hfr⟩ := hrel
    by_cases hlt : k < R.lines.length
    · have hkI : (k : Int) < (R.lines.length : Int) := by omega
      have hk0 : (0 : Int) ≤ (k : Int) := by omega
      obtain ⟨x0, x1, hsub, hrole⟩ := hlin _ hlt
      obtain ⟨va, vc, hva⟩ := hsub.slice
      have hLr := hL.only (Only.of_below hB) (by omega)
      have l1 := hLr.cell x1
      rw [hva] at l1
      have d2r := (Only.of_below hB).cell d2 (by show ¬ w.heap.size ≤ L.g; omega)
      have hsucc := dirtyTo_succ R k
      have hdl := dirtyTo_len R k
      replace hva := Lib.hid hva
      clear hLr hsub hrole x0 x1
      by_cases hq : 0 < (R.line k).hist.length
      · have hqI : (0 : Int) < ((R.line k).hist.length : Int) := by omega
        rw [if_pos hq] at hsucc
        replace hsucc := Lib.hid hsucc
        generalize hdd : dirtyTo R k = ds at *
        replace hdd := Lib.hid hdd
        have hby : (ds.length + 1) * 8 ≤ 140737488355328 := by omega
        go_wp2_with (at_builtin; refine wpList_app1 rfl (.tmp 25) (.tmp 27) 65 rfl 3 (.int .i64 0) 8 Try.underlying65 infoInt rfl (by decide) a ds.length c (nats ds) rfl (.int .i64 (k : Int)) _ _ rfl rfl hown _ rfl rfl (by simp [Value.oneCell']) hby ?_; intro sa cap w1 own1 only1 fresh1)
        have hB1 : Below w.heap.size w w1 := hB.trans (only1.below (B := w.heap.size) hB.size (fun j _ e => hfr j e))
        have hfr1 : ∀ j, Value.ownBlock (.slice sa (ds.length + 1) cap) = some j → w.heap.size ≤ j := by
          intro j hj
          have hs := hB.size
          rcases fresh1 j hj with h1 | h1
          · exact hfr j h1
          · omega
        have hrel : ∃ (k' : Nat) (a' : Option Addr) (c' : Nat), k' ≤ R.lines.length ∧ Value.int .i64 ((k : Int) + 1) = .int .i64 k' ∧ Value.slice sa (ds.length + 1) cap = .slice a' (dirtyTo R k').length c' ∧ w1.ownsRow 0 3 1 (.slice a' (dirtyTo R k').length c') (dirtyTo R k').length (nats (dirtyTo R k')) ∧ Below w.heap.size w w1 ∧ ∀ j, Value.ownBlock (.slice a' (dirtyTo R k').length c') = some j → w.heap.size ≤ j := by
          refine ⟨k + 1, sa, cap, by omega, by go_num, ?_, ?_, hB1, ?_⟩
          · rw [hsucc.out]; simp
          · rw [hsucc.out, nats_snoc]; simpa using own1
          · rw [hsucc.out]; simpa using hfr1
        replace hrel := Lib.hid hrel
        clear own1 only1 fresh1 hown hfr hfr1 hB1
        go_wp2_with fail
        go_roundw
        case rel => exact hrel.out
        case measure => simp [intOf]; omega
      · have hqI : ¬ (0 : Int) < ((R.line k).hist.length : Int) := by omega
        rw [if_neg hq] at hsucc
        replace hsucc := Lib.hid hsucc
        go_wp2_with fail
        go_roundw
        case rel => exact ⟨k + 1, a, c, by omega, by go_num, by rw [hsucc.out], by rw [hsucc.out]; exact hown, hB, by rw [hsucc.out]; exact hfr⟩
        case measure => simp [intOf]; omega
    · obtain rfl : k = R.lines.length := by omega
      have hx : post (.returned (.slice a (dirtyTo R R.lines.length).length c)) wr := by rw [← hpost.out]; exact ⟨a, c, rfl, hown, hB, hfr⟩
      replace hx := Lib.hid hx
      clear hown hfr
      go_wp2_with fail
      exact hx.out
end Go.Proofs.Ytikjpklbbjmioaa
