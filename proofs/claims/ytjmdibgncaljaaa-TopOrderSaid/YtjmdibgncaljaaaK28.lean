/- crashset: find: the least prefixes that make an image. -/
import Derived.Test.YtjmdibgncaljaaaK27
namespace Go.Proofs.Ytjmdibgncaljaaa.Dev
open Go.RowKit Go.Maps
variable {w : World} {R : Dv} {T : Nat}
theorem make0 {P : Program} (t e : TypeId) (z : Value) (bytes : Nat) (ht : P.underlying t = some (.slice e)) (hi : (P.info? e).map (fun i => (i.zero, i.size, i.bytes)) = some (some z, 1, bytes)) (hz : z.cells = #[z])
    (n : Nat) (hb : n * bytes ≤ 281474976710656) (hn : n ≤ 9223372036854775807) (w : World) :
    (Instr.makeSlice t (.int .i64 0) (.int .i64 n)).run P w = .ok (.slice (some ⟨w.heap.size, 0, none⟩) 0 n) (w.alloc (.cells (Array.replicate n z) e)) := by
  obtain ⟨i, h1, h2, h3, h4⟩ := info_parts hi
  have hb' : (i.bytes : Int) * (n : Int) ≤ 281474976710656 := by
    have h : ((i.bytes * n : Nat) : Int) ≤ 281474976710656 := by rw [h4, Nat.mul_comm]; omega
    rwa [Int.natCast_mul] at h
  have := run_make (P := P) w t e i z ht h1 h2 .i64 .i64 0 n (Int.le_refl _) (by omega) hb' (by omega)
  simp only [Int.toNat_natCast, h3, Nat.mul_one, hz] at this
  rw [this]
  have e : madeCells #[z] n = Array.replicate n z := by
    apply Array.ext'
    rw [toList_madeCells_one, Array.toList_replicate]
  rw [e]; rfl
/-- The bytes of an image, with the room of their slice. -/
def BytesRc (w : World) (bs : List Nat) (e : Ending) (w' : World) : Prop := ∃ b c, e = .returned (.slice (some ⟨b, 0, none⟩) bs.length c) ∧ bs.length ≤ c ∧ c ≤ 9223372036854775807 ∧ Rd w' (.slice (some ⟨b, 0, none⟩) bs.length c) bs.length (u8s bs) ∧ Below w.heap.size w w' ∧ w.heap.size < b
set_option maxHeartbeats 1000000 in
theorem ibytes_cap (w : World) (bs : List Nat) (h256 : ∀ x ∈ bs, x < 256) (hl : bs.length ≤ 1000000) : Calls Try.prog 19 #[.agg #[.string (strOf bs)]] w (BytesRc w bs) := by
  generalize hpost : BytesRc w bs = post
  have hcv := run_bytes_of_string (P := Try.prog) (w.alloc (.cells #[.string (strOf bs)] 53)) 9 28 5 (strOf bs) Try.underlying9 Try.underlying28 Try.underlying5
  have hfin : ∀ n c fz, bs.length ≤ c → c ≤ 9223372036854775807 → post (.returned (.slice (some ⟨(w.alloc (.cells #[.string (strOf bs)] 53)).heap.size, 0, none⟩) bs.length c)) ((w.alloc (.cells #[.string (strOf bs)] 53)).drew.alloc (.cells (bytesRow (strOf bs) n) 5 fz)) := fun n c fz h1 h2 => by
    rw [← hpost]
    have := rd_bytes (w.alloc (.cells #[.string (strOf bs)] 53)).drew bs n fz h256 c
    refine ⟨_, c, rfl, h1, h2, this, ?_, by simp⟩
    exact (((Below.refl _ w).alloc (Nat.le_refl _) _).drew).alloc (by simp) _
  have hsz := strOf_size bs
  rw [hsz] at hcv
  have hge := grownCap_ge (w.alloc (.cells #[.string (strOf bs)] 53)) bs.length 0 5
  have hle := grownCap_le_maxLen (w.alloc (.cells #[.string (strOf bs)] 53)) bs.length 0 5 (by unfold maxLen; omega)
  unfold maxLen at hle
  generalize strOf bs = s at *
  generalize grownCap (w.alloc (.cells #[.string s] 53)) bs.length 0 5 = gc at *
  have hfin2 := hfin gc gc ((bytesRow s gc).size, (bytesRow s gc).size + 1) hge hle
  replace hfin2 := Lib.hid hfin2
  clear hfin
  replace hsz := Lib.hid hsz
  go_enter Try.func19, Try.ntmps19
  go_wp2_with fail
  have hx := hfin2.out
  simp only [World.size_alloc] at hx
  exact hx
theorem per_line (hok : R.Ok T) {n : Nat} (hn : n < R.lines.length) : lineW R.perW n = (R.line n).base := by
  have h := crash_line hok (fun _ => 0) n hn
  rw [crashW_zero] at h
  exact h
def FindPost (w : World) (R : Dv) (ws : List Nat) (e : Ending) (w' : World) : Prop :=
  if possB R ws = true then ∃ a c, e = .returned (.tuple #[.slice a (ksL R ws).length c, .bool true]) ∧ w'.ownsRow 0 3 1 (.slice a (ksL R ws).length c) (ksL R ws).length (nats (ksL R ws)) ∧ Below w.heap.size w w' ∧ ∀ j, Value.ownBlock (.slice a (ksL R ws).length c) = some j → w.heap.size ≤ j
  else e = .returned (.tuple #[.slice none 0 0, .bool false]) ∧ Below w.heap.size w w'
theorem poss_len {ws : List Nat} (h : ws.length ≠ R.lines.length * 8) : possB R ws = false := by
  unfold possB; rw [decide_eq_false h]; rfl
theorem poss_no {ws : List Nat} {n : Nat} (hn : n < R.lines.length) (h : leastL (R.line n) (lineW ws n) = none) : possB R ws = false := by
  unfold possB; rw [possTo_false hn h, Bool.and_false]
theorem dirty_other {n : Nat} (hn : ¬ 0 < (R.line n).hist.length) (i : Nat) (d : Nat) (h : (dirtyL R)[i]? = some d) : d ≠ n := fun e => by
  subst e; exact hn (dirtyTo_mem (List.mem_of_getElem? h)).2
set_option maxHeartbeats 4000000 in
set_option maxRecDepth 100000 in
theorem find_any (hok : R.Ok T) {pv lv hv : Value} (hs : SetSt w R pv lv hv) (ws : List Nat) (m : Nat) (hm : ws.length = m * 8) (hm2 : m ≤ 5000) (hw : ∀ x ∈ ws, x < 18446744073709551616) :
    Calls Try.prog 57 #[.agg #[pv, lv, hv], .agg #[.string (strOf (bytesL ws))]] w (FindPost w R ws) := by
  generalize hpost : FindPost w R ws = post
  have hn2 := hok.n2
  have hT := hok.t
  have hpl : (bytesL R.perW).length = R.lines.length * 64 := by rw [bytesL_len, hok.perLen]; omega
  have hbl : (bytesL ws).length = m * 64 := by rw [bytesL_len]; omega
  have hfin : ∀ w', Below w.heap.size w w' → possB R ws = false → post (.returned (.tuple #[.slice none 0 0, .bool false])) w' := fun w' h h1 => by
    rw [← hpost]; unfold FindPost; rw [if_neg (by rw [h1]; decide)]; exact ⟨rfl, h⟩
  have hfin2 : ∀ a c w', Below w.heap.size w w' → possB R ws = true → w'.ownsRow 0 3 1 (.slice a (ksL R ws).length c) (ksL R ws).length (nats (ksL R ws)) → (∀ j, Value.ownBlock (.slice a (ksL R ws).length c) = some j → w.heap.size ≤ j) → post (.returned (.tuple #[.slice a (ksL R ws).length c, .bool true])) w' := fun a c w' h h1 h2 h3 => by
    rw [← hpost]; unfold FindPost; rw [if_pos h1]; exact ⟨a, c, rfl, h2, h, h3⟩
  obtain ⟨⟨pb, rfl, hp⟩, ⟨la, lc, rfl, hl⟩, ⟨ha, hc, vs, rfl, hH, hh⟩⟩ := id hs
  rw [hpl]
  have hdl0 : (dirtyL R).length ≤ R.lines.length := dirtyTo_len R R.lines.length
  obtain ⟨W0, hW0⟩ : ∃ W0, W0 = (w.alloc (.cells #[.slice (some ⟨pb, 0, none⟩) (R.lines.length * 64) (R.lines.length * 64), .slice la (dirtyL R).length lc, .slice ha (dirtyL R).length hc] 127)).alloc (.cells #[.string (strOf (bytesL ws))] 53) := ⟨_, rfl⟩
  have hB0 : Below w.heap.size w W0 := by rw [hW0]; exact ((Below.refl _ _).alloc (Nat.le_refl _) _).alloc (by simp) _
  have hS0 : Has W0 w.heap.size [.slice (some ⟨pb, 0, none⟩) (R.lines.length * 64) (R.lines.length * 64), .slice la (dirtyL R).length lc, .slice ha (dirtyL R).length hc] 127 := by
    rw [hW0]; exact (Has.new w [.slice (some ⟨pb, 0, none⟩) (R.lines.length * 64) (R.lines.length * 64), .slice la (dirtyL R).length lc, .slice ha (dirtyL R).length hc] 127).alloc _
  have hI0 : Has W0 (w.heap.size + 1) [.string (strOf (bytesL ws))] 53 := by
    have := Has.new (w.alloc (.cells #[.slice (some ⟨pb, 0, none⟩) (R.lines.length * 64) (R.lines.length * 64), .slice la (dirtyL R).length lc, .slice ha (dirtyL R).length hc] 127)) [.string (strOf (bytesL ws))] 53
    rw [World.size_alloc] at this
    rw [hW0]; exact this
  have hby := ibytes_cap W0 (bytesL ws) (bytesL_256 _) (by omega)
  unfold BytesRc at hby
  rw [hbl] at hby
  have hli := fun wx => ilines_any wx (bytesL ws) (by omega)
  rw [hbl, show m * 64 / 64 = m by omega] at hli
  have c0 := hI0.cell (o := 0) rfl
  have s0 := hS0.cell (o := 0) rfl
  replace hpost := Lib.hid hpost
  replace hfin := Lib.hid hfin
  replace hfin2 := Lib.hid hfin2
  replace hby := Lib.hid hby
  replace hli := Lib.hid hli
  replace hB0 := Lib.hid hB0
  replace hS0 := Lib.hid hS0
  replace hI0 := Lib.hid hI0
  replace hW0 := Lib.hid hW0
  replace hpl := Lib.hid hpl
  replace hbl := Lib.hid hbl
  replace hm := Lib.hid hm
  clear hs
  go_enter Try.func57, Try.ntmps57
  go_wp2_with fail
  rw [← hW0.out]
  refine hby.out.mono ?_
  rintro e w1 ⟨b, c, rfl, hc1, hc2, hr1, hB1, hb1⟩
  have hs1 := hB1.size
  have s1 := (hS0.out.only (Only.of_below hB1) (by have := hS0.out.lt; omega))
  have i1 := (hI0.out.only (Only.of_below hB1) (by have := hI0.out.lt; omega))
  have hBw := hB0.out.trans (hB1.mono hB0.out.size)
  have s10 := s1.cell (o := 0) rfl
  have s11 := s1.cell (o := 1) rfl
  have s12 := s1.cell (o := 2) rfl
  have i10 := i1.cell (o := 0) rfl
  replace hr1 := Lib.hid hr1
  replace s1 := Lib.hid s1
  replace i1 := Lib.hid i1
  replace hBw := Lib.hid hBw
  clear hby hB1 c0 s0 hS0 hI0 hB0
  by_cases hml : m = R.lines.length
  · subst hml
    have hne : (((R.lines.length : Int) * 64) == ((R.lines.length : Int) * 64)) = true := beq_iff_eq.2 rfl
    have hne2 : (((R.lines.length : Int) * 64) != ((R.lines.length : Int) * 64)) = false := by rw [bne, hne]; rfl
    have hmk := make0 (P := Try.prog) 49 3 (.int .i64 0) 8 Try.underlying49 infoInt rfl (dirtyL R).length (by omega) (by omega) w1
    obtain ⟨w2, hw2⟩ : ∃ w2, w2 = w1.alloc (.cells (Array.replicate (dirtyL R).length (.int .i64 0)) 3) := ⟨_, rfl⟩
    have hB2 : Below w1.heap.size w1 w2 := by rw [hw2]; exact (Below.refl _ _).alloc (Nat.le_refl _) _
    have hown2 : w2.ownsRow 0 3 1 (.slice (some ⟨w1.heap.size, 0, none⟩) 0 (dirtyL R).length) 0 [] := by
      rw [hw2]; exact World.ownsRow_made w1 _ _ (Nat.zero_le _) (by unfold maxLen; omega) (by simp)
    rw [← hw2] at hmk
    have i20 := (hB2.cell (World.block_lt_of_cell? _ _ i10)).trans i10
    replace hw2 := Lib.hid hw2
    replace hB2 := Lib.hid hB2
    replace hown2 := Lib.hid hown2
    go_wp2_with fail
    refine (hli.out w2).mono ?_
    rintro e w3 ⟨rfl, hB3⟩
    have hs2 := hB2.out.size
    have hs3 := hB3.size
    have hB13 := hB2.out.trans (hB3.mono hs2)
    have hown3 := ownsRow_only hown2.out (Only.of_below hB3) (fun k hk => Nat.not_le.2 (ownsRow_lt hown2.out hk))
    have hsA := fun wx (h : Below w1.heap.size w1 wx) => s1.out.only (Only.of_below h) (Nat.not_le.2 s1.out.lt)
    have hPA := fun wx (h : Below w1.heap.size w1 wx) => (hp.only (Only.of_below (hBw.out.trans (h.mono hBw.out.size))) (Nat.not_le.2 hp.lt))
    have hlA := fun wx (h : Below w1.heap.size w1 wx) => hl.kept (hBw.out.trans (h.mono hBw.out.size))
    have hHA := fun wx (h : Below w1.heap.size w1 wx) => hH.kept (hBw.out.trans (h.mono hBw.out.size))
    have hhA := fun wx (h : Below w1.heap.size w1 wx) => hh.kept (hBw.out.trans (h.mono hBw.out.size))
    have hrA := fun wx (h : Below w1.heap.size w1 wx) => hr1.out.kept h
    replace hB13 := Lib.hid hB13
    replace hown3 := Lib.hid hown3
    replace hsA := Lib.hid hsA
    replace hPA := Lib.hid hPA
    replace hlA := Lib.hid hlA
    replace hHA := Lib.hid hHA
    replace hhA := Lib.hid hhA
    replace hrA := Lib.hid hrA
    clear i20 hmk s10 s11 s12 i10 hB3 hown2 hne hne2 hp hl hH hh
    have hWw : w.heap.size ≤ w1.heap.size := hBw.out.size
    go_wp2_with fail
    go_loopw [7, 26] (fun kv iv wr => ∃ (n : Nat) (a : Option Addr) (c : Nat), n ≤ R.lines.length ∧ iv = .int .i64 (n : Int) ∧ kv = .slice a (ksTo R ws n).length c ∧ wr.ownsRow 0 3 1 (.slice a (ksTo R ws n).length c) (ksTo R ws n).length (nats (ksTo R ws n)) ∧ Below w1.heap.size w1 wr ∧ possTo R ws n = true ∧ ∀ j, Value.ownBlock (.slice a (ksTo R ws n).length c) = some j → w1.heap.size ≤ j) (fun _ iv _ => R.lines.length - (intOf iv).toNat)
    case atStart => exact ⟨0, _, _, Nat.zero_le _, rfl, rfl, hown3.out, hB13.out, rfl, fun j hj => by cases hj; exact Nat.le_refl _⟩
    case round =>
      clear hown3 hB13
      obtain ⟨n, a, c', hn, rfl, rfl, hown, hBr, hps, hfr⟩ := hrel
      by_cases hlt : n < R.lines.length
      · have hkI : decide ((n : Int) < (R.lines.length : Int)) = true := decide_eq_true (by omega)
        have hkN : decide (n < R.lines.length) = true := decide_eq_true hlt
        have hLn := hok.ln n hlt
        have s0 := (hsA.out wr hBr).cell (o := 0) rfl
        have s1' := (hsA.out wr hBr).cell (o := 1) rfl
        have s2 := (hsA.out wr hBr).cell (o := 2) rfl
        have hklen := ksTo_len R ws n
        have hksu := ksTo_succ R ws n
        have hpsu := possTo_succ R ws n
        have hnx := dirtyTo_next R n
        have hpre : ∀ (va : Option Addr) (vc : Nat) (wx : World), Rd wx (.slice va (R.line n).hist.length vc) (R.line n).hist.length (wcells (R.line n).hist) → Calls Try.prog 95 #[aggW (lineW R.perW n), .slice va (R.line n).hist.length vc, aggW (lineW ws n)] wx fun e w' => e = .returned (.int .i64 (leastI (R.line n) (lineW ws n))) ∧ Below wx.heap.size wx w' := fun va vc wx h => by
          rw [per_line hok hlt]
          exact prefix_any5 (R.line n) (lineW ws n) va vc hLn.b (lineW_len hm.out hlt) hLn.bv (lineW_lt hw n) (by have := hLn.hl; omega) h (fun p h => ⟨by have := hLn.h p h; omega, (hLn.h p h).2.2⟩)
        have hl1 : ∀ wx, Below w1.heap.size w1 wx → Calls Try.prog 96 #[.slice (some ⟨pb, 0, none⟩) (R.lines.length * 64) (R.lines.length * 64), .int .i64 (n : Int)] wx fun e w' => e = .returned (aggW (lineW R.perW n)) ∧ Below wx.heap.size wx w' := fun wx h => by
          have := line_any (w := wx) R.perW n R.lines.length (some ⟨pb, 0, none⟩) (R.lines.length * 64) (by rw [hok.perLen]; omega) hlt (by omega) (Nat.le_refl _) (by omega) hok.per_lt (Rd.of_has (hPA.out wx h) _ _)
          rw [hpl.out] at this; exact this
        have hl2 : ∀ wx, Below w1.heap.size w1 wx → Calls Try.prog 96 #[.slice (some ⟨b, 0, none⟩) (R.lines.length * 64) c, .int .i64 (n : Int)] wx fun e w' => e = .returned (aggW (lineW ws n)) ∧ Below wx.heap.size wx w' := fun wx h => by
          have := line_any (w := wx) ws n R.lines.length (some ⟨b, 0, none⟩) c hm.out hlt (by omega) hc1 hc2 hw (by rw [hbl.out]; exact hrA.out wx h)
          rw [hbl.out] at this; exact this
        have hnone := fun (h : leastL (R.line n) (lineW ws n) = none) wx (hb : Below w1.heap.size w1 wx) => hfin.out wx (hBw.out.trans (hb.mono hWw)) (poss_no hlt h)
        have hwn := Lib.hid (show wrap64 ((n : Int) + 1) = (n : Int) + 1 by unfold wrap64; omega)
        replace hksu := Lib.hid hksu
        replace hpsu := Lib.hid hpsu
        replace hnx := Lib.hid hnx
        replace hps := Lib.hid hps
        replace hfr := Lib.hid hfr
        replace hklen := Lib.hid hklen
        by_cases hd : 0 < (R.line n).hist.length
        · have hpl2 := dirty_place hlt hd
          have hlt2 := dirty_lt hlt hd
          have e1 : ksTo R ws (n + 1) = ksTo R ws n ++ [leastR R ws n] := by rw [hksu.out, if_pos hd]
          have hkl := hklen.out
          obtain ⟨hva, hvc, hv1, hv2⟩ := (hHA.out wr hBr).2 _ _ hpl2
          have hvd := hv2.rd
          obtain ⟨bl, ol, cl, ea, fa⟩ := (hlA.out wr hBr).cells (by omega)
          simp only [Value.slice.injEq, true_and] at ea
          obtain ⟨rfl, ea2⟩ := ea
          replace ea2 := Lib.hid ea2
          obtain ⟨bh, oh, ch, eb, fb⟩ := (hhA.out wr hBr).cells (by omega)
          simp only [Value.slice.injEq, true_and] at eb
          obtain ⟨rfl, eb2⟩ := eb
          replace eb2 := Lib.hid eb2
          have ck : wr.cell? ⟨bl, ol + (dirtyTo R n).length, none⟩ = some (.int .i64 (n : Int)) := fa _ _ (nats_get _ _ _ hpl2)
          have cq : wr.cell? ⟨bh, oh + (dirtyTo R n).length, none⟩ = some (.slice hva (R.line n).hist.length hvc) := fb _ _ hv1
          have hpr := fun wx (hb : Below wr.heap.size wr wx) => hpre hva hvc wx (hvd.kept hb)
          have hby : ((ksTo R ws n).length + 1) * 8 ≤ 140737488355328 := by omega
          have hr1' := hown
          replace e1 := Lib.hid e1
          replace hpr := Lib.hid hpr
          replace hpl2 := Lib.hid hpl2
          clear hpre fa fb hv1 hv2 hvd
          rw [← hkl] at ck cq hlt2
          have hrel0 : ∀ kk, leastL (R.line n) (lineW ws n) = some kk → ∀ (sa : Option Addr) (cap : Nat) (wx wy : World), Below wr.heap.size wr wx → wy.ownsRow 0 3 1 (.slice sa ((ksTo R ws n).length + 1) cap) ((ksTo R ws n).length + 1) (nats (ksTo R ws n) ++ [.int .i64 (kk : Int)]) → Only (fun k => Value.ownBlock (.slice a (ksTo R ws n).length c') = some k) wx wy →
              (∀ k, Value.ownBlock (.slice sa ((ksTo R ws n).length + 1) cap) = some k → Value.ownBlock (.slice a (ksTo R ws n).length c') = some k ∨ wx.heap.size ≤ k) →
              ∃ (n' : Nat) (a' : Option Addr) (c'' : Nat), n' ≤ R.lines.length ∧ Value.int .i64 ((n : Int) + 1) = .int .i64 (n' : Int) ∧ Value.slice sa ((ksTo R ws n).length + 1) cap = .slice a' (ksTo R ws n').length c'' ∧ wy.ownsRow 0 3 1 (.slice a' (ksTo R ws n').length c'') (ksTo R ws n').length (nats (ksTo R ws n')) ∧ Below w1.heap.size w1 wy ∧ possTo R ws n' = true ∧ ∀ j, Value.ownBlock (.slice a' (ksTo R ws n').length c'') = some j → w1.heap.size ≤ j := fun kk h sa cap wx wy hb h1 h2 h3 => by
            have hl1 : (ksTo R ws (n + 1)).length = (ksTo R ws n).length + 1 := by rw [e1.out, List.length_append, List.length_singleton]
            have hB1 := hBr.trans (hb.mono hBr.size)
            have hle : leastR R ws n = kk := by unfold leastR; exact (leastI_some h).2
            refine ⟨n + 1, sa, cap, by omega, rfl, by rw [hl1], ?_, hB1.trans (h2.below (B := w1.heap.size) hB1.size (fun j _ e => hfr.out j e)), ?_, fun j hj => ?_⟩
            · rw [hl1, e1.out, nats_snoc, hle]; exact h1
            · rw [hpsu.out, hps.out, h]; rfl
            · rw [hl1] at hj
              rcases h3 j hj with h4 | h4
              · exact hfr.out j h4
              · have := hB1.size; omega
          replace hrel0 := Lib.hid hrel0
          have hksl : (nats (ksTo R ws n)).length = (ksTo R ws n).length := nats_len _
          generalize nats (ksTo R ws n) = kc at *
          generalize (ksTo R ws n).length = kl at *
          have g1 : decide ((kl : Int) < ((dirtyL R).length : Int)) = true := decide_eq_true (by omega)
          have g1N : decide (kl < (dirtyL R).length) = true := decide_eq_true hlt2
          have hbe : ((n : Int) == (n : Int)) = true := beq_iff_eq.2 rfl
          have hki : (kl : Int) < ((dirtyL R).length : Int) := by omega
          have hk0 : (0 : Int) ≤ (kl : Int) := by omega
          replace hl1 := Lib.hid hl1
          replace hl2 := Lib.hid hl2
          replace hkl := Lib.hid hkl
          replace hklen := Lib.hid hklen
          replace hksl := Lib.hid hksl
          cases hL : leastL (R.line n) (lineW ws n) with
          | none =>
            have hx := hnone hL
            have hpq := fun wx (hb : Below wr.heap.size wr wx) => (hpr.out wx hb).mono (R' := fun e w' => e = .returned (.int .i64 (-1)) ∧ Below wx.heap.size wx w') (fun e w' h => ⟨by rw [← leastI_none hL]; exact h.1, h.2⟩)
            replace hL := Lib.hid hL
            replace hx := Lib.hid hx
            replace hpq := Lib.hid hpq
            clear hrel0 hpr
            go_wp2_with fail
            refine (hl1.out wr hBr).mono ?_
            rintro e wA ⟨rfl, bA⟩
            have hA := hBr.trans (bA.mono hBr.size)
            clear s0 s1' s2 ck cq
            go_wp2_with fail
            refine (hl2.out wA hA).mono ?_
            rintro e wB ⟨rfl, bB⟩
            have hB := hA.trans (bB.mono hA.size)
            go_wp2_with fail
            refine (hpq.out wB (bA.trans (bB.mono bA.size))).mono ?_
            rintro e wC ⟨rfl, bC⟩
            have hy := Lib.hid (hx.out wC (hB.trans (bC.mono hB.size)))
            go_wp2_with fail
            exact hy.out
          | some kk =>
            have hx := hrel0.out kk hL
            have hpq := fun wx (hb : Below wr.heap.size wr wx) => (hpr.out wx hb).mono (R' := fun e w' => e = .returned (.int .i64 (kk : Int)) ∧ Below wx.heap.size wx w') (fun e w' h => ⟨by rw [← (leastI_some hL).1]; exact h.1, h.2⟩)
            have hkz : decide ((kk : Int) < 0) = false := decide_eq_false (by omega)
            replace hL := Lib.hid hL
            replace hx := Lib.hid hx
            replace hpq := Lib.hid hpq
            clear hrel0 hpr hnone
            go_wp2_with fail
            refine (hl1.out wr hBr).mono ?_
            rintro e wA ⟨rfl, bA⟩
            have hA := hBr.trans (bA.mono hBr.size)
            clear s0 s1' s2 ck cq
            go_wp2_with fail
            refine (hl2.out wA hA).mono ?_
            rintro e wB ⟨rfl, bB⟩
            have hB := hA.trans (bB.mono hA.size)
            go_wp2_with fail
            refine (hpq.out wB (bA.trans (bB.mono bA.size))).mono ?_
            rintro e wC ⟨rfl, bC⟩
            have bwC := (bA.trans (bB.mono bA.size)).trans (bC.mono (bA.trans (bB.mono bA.size)).size)
            have ownC : wC.ownsRow 0 3 1 (.slice a kl c') kl kc := ownsRow_only hr1' (Only.of_below bwC) (fun k hk => Nat.not_le.2 (ownsRow_lt hr1' hk))
            have hy := Lib.hid (fun sa cap wy => hx.out sa cap wC wy bwC)
            clear hx bA bB bC hA hB
            go_wp2_with (at_builtin; refine wpList_app1 rfl (.tmp 64) (.tmp 66) 49 rfl 3 (.int .i64 0) 8 Try.underlying49 infoInt rfl (by decide) a kl c' kc rfl (.int .i64 (kk : Int)) _ wC rfl rfl ownC _ rfl rfl (by simp [Value.oneCell']) hby ?_; intro sa' cap' w5 own5 only5 fresh5)
            exact ⟨hy.out sa' cap' w5 own5 only5 fresh5, by simp [intOf]; omega⟩
        · have hdo := dirty_other hd
          have hh0 : (R.line n).hist.length = 0 := by omega
          have hpr := fun wx => hpre none 0 wx (by rw [hh0, show (R.line n).hist = [] from List.length_eq_zero_iff.1 hh0]; exact Rd.nil wx)
          rw [hh0] at hpr
          replace hpr := Lib.hid hpr
          replace hh0 := Lib.hid hh0
          clear hpre
          have hrel0 : leastL (R.line n) (lineW ws n) ≠ none → ∀ wx, Below wr.heap.size wr wx → ∃ (n' : Nat) (a' : Option Addr) (c'' : Nat), n' ≤ R.lines.length ∧ Value.int .i64 ((n : Int) + 1) = .int .i64 (n' : Int) ∧ Value.slice a (ksTo R ws n).length c' = .slice a' (ksTo R ws n').length c'' ∧ wx.ownsRow 0 3 1 (.slice a' (ksTo R ws n').length c'') (ksTo R ws n').length (nats (ksTo R ws n')) ∧ Below w1.heap.size w1 wx ∧ possTo R ws n' = true ∧ ∀ j, Value.ownBlock (.slice a' (ksTo R ws n').length c'') = some j → w1.heap.size ≤ j := fun h wx hb => by
            have e1 : ksTo R ws (n + 1) = ksTo R ws n := by rw [hksu.out, if_neg hd]
            refine ⟨n + 1, a, c', by omega, rfl, by rw [e1], by rw [e1]; exact ownsRow_only hown (Only.of_below hb) (fun k hk => Nat.not_le.2 (ownsRow_lt hown hk)), hBr.trans (hb.mono hBr.size), ?_, by rw [e1]; exact hfr.out⟩
            rw [hpsu.out, hps.out, Option.isSome_iff_ne_none.2 h]; rfl
          replace hrel0 := Lib.hid hrel0
          have hllt : (ksTo R ws n).length < (dirtyL R).length ∨ (dirtyL R).length ≤ (ksTo R ws n).length := Nat.lt_or_ge _ _
          generalize (ksTo R ws n).length = kl at *
          rcases hllt with hllt | hllt
          · have g1 : decide ((kl : Int) < ((dirtyL R).length : Int)) = true := decide_eq_true (by omega)
            have g1N : decide (kl < (dirtyL R).length) = true := decide_eq_true hllt
            obtain ⟨bl, ol, cl, ea, fa⟩ := (hlA.out wr hBr).cells (by omega)
            simp only [Value.slice.injEq, true_and] at ea
            obtain ⟨rfl, ea2⟩ := ea
            replace ea2 := Lib.hid ea2
            have hdk := get_of_lt 0 hllt
            have ck : wr.cell? ⟨bl, ol + kl, none⟩ = some (.int .i64 (((dirtyL R).getD kl 0 : Nat) : Int)) := fa _ _ (nats_get _ _ _ hdk)
            have hdn := hdo _ _ hdk
            generalize (dirtyL R).getD kl 0 = d at *
            have hbe : ((d : Int) == (n : Int)) = false := beq_eq_false_iff_ne.2 (by omega)
            have hki : (kl : Int) < ((dirtyL R).length : Int) := by omega
            have hk0 : (0 : Int) ≤ (kl : Int) := by omega
            replace hdk := Lib.hid hdk
            replace hdn := Lib.hid hdn
            clear fa hdo
            replace hl1 := Lib.hid hl1
            replace hl2 := Lib.hid hl2
            cases hL : leastL (R.line n) (lineW ws n) with
            | none =>
              have hx := hnone hL
              have hpq := fun wx => (hpr.out wx).mono (R' := fun e w' => e = .returned (.int .i64 (-1)) ∧ Below wx.heap.size wx w') (fun e w' h => ⟨by rw [← leastI_none hL]; exact h.1, h.2⟩)
              replace hL := Lib.hid hL
              replace hx := Lib.hid hx
              replace hpq := Lib.hid hpq
              clear hrel0 hpr
              go_wp2_with fail
              refine (hl1.out wr hBr).mono ?_
              rintro e wA ⟨rfl, bA⟩
              have hA := hBr.trans (bA.mono hBr.size)
              clear s0 s1' s2
              go_wp2_with fail
              refine (hl2.out wA hA).mono ?_
              rintro e wB ⟨rfl, bB⟩
              have hB := hA.trans (bB.mono hA.size)
              go_wp2_with fail
              refine (hpq.out wB).mono ?_
              rintro e wC ⟨rfl, bC⟩
              have hy := Lib.hid (hx.out wC (hB.trans (bC.mono hB.size)))
              go_wp2_with fail
              exact hy.out
            | some kk =>
              have hx := hrel0.out (by rw [hL]; simp)
              have hpq := fun wx => (hpr.out wx).mono (R' := fun e w' => e = .returned (.int .i64 (kk : Int)) ∧ Below wx.heap.size wx w') (fun e w' h => ⟨by rw [← (leastI_some hL).1]; exact h.1, h.2⟩)
              have hkz : decide ((kk : Int) < 0) = false := decide_eq_false (by omega)
              replace hL := Lib.hid hL
              replace hx := Lib.hid hx
              replace hpq := Lib.hid hpq
              clear hrel0 hpr hnone
              go_wp2_with fail
              refine (hl1.out wr hBr).mono ?_
              rintro e wA ⟨rfl, bA⟩
              have hA := hBr.trans (bA.mono hBr.size)
              clear s0 s1' s2
              go_wp2_with fail
              refine (hl2.out wA hA).mono ?_
              rintro e wB ⟨rfl, bB⟩
              have hB := hA.trans (bB.mono hA.size)
              go_wp2_with fail
              refine (hpq.out wB).mono ?_
              rintro e wC ⟨rfl, bC⟩
              have hy := Lib.hid (hx.out wC ((bA.trans (bB.mono bA.size)).trans (bC.mono (bA.trans (bB.mono bA.size)).size)))
              clear hx
              go_wp2_with fail
              exact ⟨hy.out, by simp [intOf]; omega⟩
          · have g1 : decide ((kl : Int) < ((dirtyL R).length : Int)) = false := decide_eq_false (by omega)
            have g1N : decide (kl < (dirtyL R).length) = false := decide_eq_false (by omega)
            clear hdo
            replace hl1 := Lib.hid hl1
            replace hl2 := Lib.hid hl2
            cases hL : leastL (R.line n) (lineW ws n) with
            | none =>
              have hx := hnone hL
              have hpq := fun wx => (hpr.out wx).mono (R' := fun e w' => e = .returned (.int .i64 (-1)) ∧ Below wx.heap.size wx w') (fun e w' h => ⟨by rw [← leastI_none hL]; exact h.1, h.2⟩)
              replace hL := Lib.hid hL
              replace hx := Lib.hid hx
              replace hpq := Lib.hid hpq
              clear hrel0 hpr
              go_wp2_with fail
              refine (hl1.out wr hBr).mono ?_
              rintro e wA ⟨rfl, bA⟩
              have hA := hBr.trans (bA.mono hBr.size)
              clear s0 s1' s2
              go_wp2_with fail
              refine (hl2.out wA hA).mono ?_
              rintro e wB ⟨rfl, bB⟩
              have hB := hA.trans (bB.mono hA.size)
              go_wp2_with fail
              refine (hpq.out wB).mono ?_
              rintro e wC ⟨rfl, bC⟩
              have hy := Lib.hid (hx.out wC (hB.trans (bC.mono hB.size)))
              go_wp2_with fail
              exact hy.out
            | some kk =>
              have hx := hrel0.out (by rw [hL]; simp)
              have hpq := fun wx => (hpr.out wx).mono (R' := fun e w' => e = .returned (.int .i64 (kk : Int)) ∧ Below wx.heap.size wx w') (fun e w' h => ⟨by rw [← (leastI_some hL).1]; exact h.1, h.2⟩)
              have hkz : decide ((kk : Int) < 0) = false := decide_eq_false (by omega)
              replace hL := Lib.hid hL
              replace hx := Lib.hid hx
              replace hpq := Lib.hid hpq
              clear hrel0 hpr hnone
              go_wp2_with fail
              refine (hl1.out wr hBr).mono ?_
              rintro e wA ⟨rfl, bA⟩
              have hA := hBr.trans (bA.mono hBr.size)
              clear s0 s1' s2
              go_wp2_with fail
              refine (hl2.out wA hA).mono ?_
              rintro e wB ⟨rfl, bB⟩
              have hB := hA.trans (bB.mono hA.size)
              go_wp2_with fail
              refine (hpq.out wB).mono ?_
              rintro e wC ⟨rfl, bC⟩
              have hy := Lib.hid (hx.out wC ((bA.trans (bB.mono bA.size)).trans (bC.mono (bA.trans (bB.mono bA.size)).size)))
              clear hx
              go_wp2_with fail
              exact ⟨hy.out, by simp [intOf]; omega⟩
      · obtain rfl : n = R.lines.length := by omega
        have hkI : decide ((R.lines.length : Int) < (R.lines.length : Int)) = false := decide_eq_false (by omega)
        have hkN : decide (R.lines.length < R.lines.length) = false := decide_eq_false (by omega)
        have hx := Lib.hid (hfin2.out a c' wr (hBw.out.trans (hBr.mono hWw)) (by unfold possB; rw [hps, decide_eq_true hm.out]; rfl) hown (fun j hj => Nat.le_trans hWw (hfr j hj)))
        clear hown hBr hps hfr
        have hke : (ksL R ws).length = (ksTo R ws R.lines.length).length := rfl
        rw [hke] at hx
        replace hke := Lib.hid hke
        go_wp2_with fail
        exact hx.out
  · have hne : (((m : Int) * 64) == ((R.lines.length : Int) * 64)) = false := beq_eq_false_iff_ne.2 (by omega)
    have hne2 : (((m : Int) * 64) != ((R.lines.length : Int) * 64)) = true := by rw [bne, hne]; rfl
    have hx := Lib.hid (hfin.out w1 hBw.out (poss_len (by rw [hm.out]; omega)))
    go_wp2_with fail
    exact hx.out
end Go.Proofs.Ytjmdibgncaljaaa.Dev
