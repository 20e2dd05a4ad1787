/- image: With and Resize. -/
import Derived.Test.YtjmdibgncaljaaaK34
import Derived.Test.YtjmdibgncaljaaaK13
namespace Go.Proofs.Ytjmdibgncaljaaa.Dev
open Go.RowKit Go.Maps
variable {w : World}
theorem buf_bytes (w : World) (bs : List Nat) (n : Nat) (h256 : ∀ x ∈ bs, x < 256) : BufB (w.alloc (.cells (bytesRow (strOf bs) n) 5 ((bytesRow (strOf bs) n).size, (bytesRow (strOf bs) n).size + 1))) w.heap.size bs := by
  intro j hj
  have hn : (w.alloc (.cells (bytesRow (strOf bs) n) 5 ((bytesRow (strOf bs) n).size, (bytesRow (strOf bs) n).size + 1))).heap[w.heap.size]? = some (.cells (bytesRow (strOf bs) n) 5 ((bytesRow (strOf bs) n).size, (bytesRow (strOf bs) n).size + 1)) := heap_alloc_new
  have hg := bytesRow_get bs n h256 j hj
  have hs : j < (bytesRow (strOf bs) n).size := (Array.getElem?_eq_some_iff.1 hg).1
  refine ⟨?_, ?_⟩
  · simp only [World.cell?, hn]
    simpa using hg
  · simp only [World.frozen?, hn]
    simp; omega
/-- The bytes of an image in a block that may be written. -/
def BytesBuf (w : World) (bs : List Nat) (e : Ending) (w' : World) : Prop := ∃ b c, e = .returned (.slice (some ⟨b, 0, none⟩) bs.length c) ∧ BufB w' b bs ∧ Below w.heap.size w w' ∧ w.heap.size < b
set_option maxHeartbeats 1000000 in
theorem ibytes_buf (w : World) (bs : List Nat) (h256 : ∀ x ∈ bs, x < 256) (hl : bs.length ≤ 1000000) : Calls Try.prog 19 #[.agg #[.string (strOf bs)]] w (BytesBuf w bs) := by
  generalize hpost : BytesBuf w bs = post
  have hcv := run_bytes_of_string (P := Try.prog) (w.alloc (.cells #[.string (strOf bs)] 53)) 9 28 5 (strOf bs) Try.underlying9 Try.underlying28 Try.underlying5
  have hfin : ∀ n c, post (.returned (.slice (some ⟨(w.alloc (.cells #[.string (strOf bs)] 53)).heap.size, 0, none⟩) bs.length c)) ((w.alloc (.cells #[.string (strOf bs)] 53)).drew.alloc (.cells (bytesRow (strOf bs) n) 5 ((bytesRow (strOf bs) n).size, (bytesRow (strOf bs) n).size + 1))) := fun n c => by
    rw [← hpost]
    have := buf_bytes (w.alloc (.cells #[.string (strOf bs)] 53)).drew bs n h256
    refine ⟨_, c, rfl, this, ?_, by simp⟩
    exact (((Below.refl _ w).alloc (Nat.le_refl _) _).drew).alloc (by simp) _
  have hsz := strOf_size bs
  rw [hsz] at hcv
  generalize strOf bs = s at *
  generalize grownCap (w.alloc (.cells #[.string s] 53)) bs.length 0 5 = gc at *
  have hfin2 := hfin gc gc
  replace hfin2 := Lib.hid hfin2
  clear hfin
  replace hsz := Lib.hid hsz
  go_enter Try.func19, Try.ntmps19
  go_wp2_with fail
  have hx := hfin2.out
  simp only [World.size_alloc] at hx
  exact hx
set_option maxRecDepth 100000 in
theorem icheck_any (w : World) (bs : List Nat) (off : Nat) (h8 : off % 8 = 0) (ho : off < bs.length) (hl : bs.length ≤ 1000000) : Calls Try.prog 80 #[.agg #[.string (strOf bs)], .int .u64 (off : Int)] w fun e w' => e = .returned (.int .i64 0) ∧ Below w.heap.size w w' := by
  have hB : Below w.heap.size w (w.alloc (.cells #[.string (strOf bs)] 53)) := (Below.refl _ _).alloc (Nat.le_refl _) _
  have hsz := strOf_size bs
  have c0 := (Has.new w [.string (strOf bs)] 53).cell (o := 0) rfl
  generalize strOf bs = s at *
  have hm : (off : Int) % 8 = 0 := by omega
  have hm2 : ((off : Int) % 8 == 0) = true := beq_iff_eq.2 hm
  have hd : decide (((s.size : Nat) : Int) ≤ (off : Int)) = false := decide_eq_false (by rw [hsz]; omega)
  have hd2 : decide (s.size ≤ off) = false := decide_eq_false (by rw [hsz]; omega)
  have hs3 : s.size ≤ 1000000 := by omega
  have ho2 : (off : Int) < 1000000 := by omega
  replace hsz := Lib.hid hsz
  replace hB := Lib.hid hB
  replace hm := Lib.hid hm
  clear h8 ho hl ho2
  go_enter Try.func80, Try.ntmps80
  go_wp2_with fail
  go_ret
  exact ⟨rfl, hB.out⟩
def WithPost (w : World) (ws : List Nat) (e : Ending) (w' : World) : Prop := e = .returned (.tuple #[.agg #[.string (strOf (bytesL ws))], .int .i64 0]) ∧ Below w.heap.size w w'
set_option maxHeartbeats 1000000 in
set_option maxRecDepth 100000 in
theorem with_any (w : World) (ws : List Nat) (m off v : Nat) (hm : ws.length = m * 8) (hm2 : m ≤ 5000) (h8 : off % 8 = 0) (ho : off < m * 64) (hv : v < 18446744073709551616) :
    Calls Try.prog 79 #[.agg #[.string (strOf (bytesL ws))], .int .u64 (off : Int), .int .u64 (v : Int)] w (WithPost w (setA ws (off, v))) := by
  generalize hpost : WithPost w (setA ws (off, v)) = post
  have hbl : (bytesL ws).length = m * 64 := by rw [bytesL_len]; omega
  obtain ⟨W0, hW0⟩ : ∃ W0, W0 = (w.alloc (.cells #[.string (strOf (bytesL ws))] 53)).alloc (.cells #[Value.string ⟨#[]⟩] 53) := ⟨_, rfl⟩
  have hB0 : Below w.heap.size w W0 := by rw [hW0]; exact ((Below.refl _ _).alloc (Nat.le_refl _) _).alloc (by simp) _
  have hI0 : Has W0 w.heap.size [.string (strOf (bytesL ws))] 53 := by rw [hW0]; exact (Has.new w [.string (strOf (bytesL ws))] 53).alloc _
  have hR0 : Has W0 (w.heap.size + 1) [Value.string ⟨#[]⟩] 53 := by
    have := Has.new (w.alloc (.cells #[.string (strOf (bytesL ws))] 53)) [Value.string ⟨#[]⟩] 53
    rw [World.size_alloc] at this
    rw [hW0]; exact this
  have hck := icheck_any W0 (bytesL ws) off h8 (by omega) (by omega)
  have hby := fun wx => ibytes_buf wx (bytesL ws) (bytesL_256 _) (by omega)
  have hpu := fun wx b c (hb : BufB wx b (bytesL ws)) => iput_any b (bytesL ws) c off v hb (by omega) (by omega) hv
  rw [setBy_full ws off v h8 (by omega)] at hpu
  have hsl : (setA ws (off, v)).length = ws.length := by simp [setA]
  have hbl2 : (bytesL (setA ws (off, v))).length = m * 64 := by rw [bytesL_len, hsl]; omega
  have hstr := fun wx b c (hb : BufB wx b (bytesL (setA ws (off, v)))) => (hb.rd c).str (bytesL_256 _) (by omega) wx (Below.refl _ _)
  rw [hbl2] at hstr
  unfold BytesBuf at hby
  rw [hbl] at hby hpu
  have hfin : ∀ w', Below w.heap.size w w' → post (.returned (.tuple #[.agg #[.string (strOf (bytesL (setA ws (off, v))))], .int .i64 0])) w' := fun w' h => by rw [← hpost]; exact ⟨rfl, h⟩
  have i0 := hI0.cell (o := 0) rfl
  generalize setA ws (off, v) = us at *
  generalize hs1 : strOf (bytesL us) = s1 at *
  generalize hs0 : strOf (bytesL ws) = s0 at *
  have hof : wrap64 (off : Int) = (off : Int) := by unfold wrap64; omega
  have hof2 : (off : Int) ≤ 320000 := by omega
  rw [hW0] at hck i0
  replace hck := Lib.hid hck
  replace hby := Lib.hid hby
  replace hpu := Lib.hid hpu
  replace hstr := Lib.hid hstr
  replace hfin := Lib.hid hfin
  replace hI0 := Lib.hid hI0
  replace hR0 := Lib.hid hR0
  replace hB0 := Lib.hid hB0
  replace hW0 := Lib.hid hW0
  replace hpost := Lib.hid hpost
  replace hs0 := Lib.hid hs0
  replace hs1 := Lib.hid hs1
  replace hsl := Lib.hid hsl
  replace hm := Lib.hid hm
  replace hof := Lib.hid hof
  replace hbl := Lib.hid hbl
  replace hbl2 := Lib.hid hbl2
  replace h8 := Lib.hid h8
  go_enter Try.func79, Try.ntmps79
  go_wp2_with fail
  refine hck.out.mono ?_
  rintro e w1 ⟨rfl, hB1⟩
  rw [← hW0.out] at hB1
  have hI1 := hI0.out.only (Only.of_below hB1) (Nat.not_le.2 hI0.out.lt)
  have hR1 := hR0.out.only (Only.of_below hB1) (Nat.not_le.2 hR0.out.lt)
  have hBw1 := hB0.out.trans (hB1.mono hB0.out.size)
  have i1 := hI1.cell (o := 0) rfl
  clear hB1
  go_wp2_with fail
  refine (hby.out w1).mono ?_
  rintro e w2 ⟨b, c, rfl, hbf, hB2, hb2⟩
  have hs := hB2.size
  have hR2 := hR1.only (Only.of_below hB2) (Nat.not_le.2 hR1.lt)
  have hBw2 := hBw1.trans (hB2.mono hBw1.size)
  have hr1 := hR1.lt
  have hws : w.heap.size ≤ w1.heap.size := hBw1.size
  replace hR2 := Lib.hid hR2
  replace hBw2 := Lib.hid hBw2
  replace hbf := Lib.hid hbf
  clear hB2 hR1 i1 hI1 hBw1 hck hby i0
  go_wp2_with fail
  refine (hpu.out w2 b c hbf.out).mono ?_
  rintro e w3 ⟨rfl, hb3, ho3⟩
  have hR3 := hR2.out.only ho3 (by omega)
  have hBw3 : Below w.heap.size w w3 := hBw2.out.trans (ho3.below (B := w.heap.size) hBw2.out.size (fun k _ e => by omega))
  have hcv := hstr.out w3 b c hb3
  have r3 := hR3.cell (o := 0) rfl
  have f3 := hR3.free 0
  have hR4 := hR3.set 0 (.string s1)
  have q0 := hR4.cell (o := 0) rfl
  have hx := Lib.hid (hfin.out _ (hBw3.setCell (p := ⟨w.heap.size + 1, 0, none⟩) (by show w.heap.size ≤ w.heap.size + 1; omega) (.string s1)))
  clear hR3 hR4 hBw3 hb3 ho3 hpu hstr
  go_wp2_with fail
  exact bodyPost_ret (v := .tuple #[.agg #[.string s1], .int .i64 0]) (by simp [results, Try.results79, go_sem, q0]) rfl hx.out
/-- The words of an image of k lines: truncated, or with zeros. -/
def resW (ws : List Nat) (k : Nat) : List Nat := (List.range (k * 8)).map fun i => ws.getD i 0
theorem resW_len (ws : List Nat) (k : Nat) : (resW ws k).length = k * 8 := by simp [resW]
theorem resW_get (ws : List Nat) (k i : Nat) (h : i < k * 8) : (resW ws k).getD i 0 = ws.getD i 0 := by
  unfold resW
  exact getD_of 0 (by rw [List.getElem?_map, List.getElem?_range h]; rfl)
theorem resW_lt {ws : List Nat} (h : ∀ x ∈ ws, x < 18446744073709551616) (k : Nat) : ∀ x ∈ resW ws k, x < 18446744073709551616 := by
  intro x hx
  unfold resW at hx
  obtain ⟨i, _, rfl⟩ := List.mem_map.1 hx
  by_cases hi : i < ws.length
  · exact h _ (mem_getD 0 hi)
  · rw [List.getD, List.getElem?_eq_none (by omega)]; exact (by decide)
theorem res_cells (ws : List Nat) (k : Nat) : Lib.byteCells ((strOf (bytesL ws)).data.toList.take (k * 64)) ++ (List.replicate (k * 64) (Value.int .u8 0)).drop (Nat.min (bytesL ws).length (k * 64)) = u8s (bytesL (resW ws k)) := by
  have hl : (Lib.byteCells ((strOf (bytesL ws)).data.toList.take (k * 64))).length = Nat.min (bytesL ws).length (k * 64) := by
    rw [Lib.byteCells_length, List.length_take]; simp [strOf]; exact Nat.min_comm _ _
  have hb := bytesL_len ws
  have hmn : Nat.min (bytesL ws).length (k * 64) ≤ k * 64 := Nat.min_le_right _ _
  apply List.ext_getElem?
  intro i
  by_cases hi : i < k * 64
  · have h2 := bytesL_get (resW ws k) i (by rw [resW_len]; omega)
    rw [u8s_get _ _ _ h2, resW_get ws k _ (by omega)]
    by_cases h3 : i < (bytesL ws).length
    · have hlt : i < Nat.min (bytesL ws).length (k * 64) := by
        show i < min (bytesL ws).length (k * 64); omega
      rw [List.getElem?_append_left (by rw [hl]; exact hlt)]
      have h4 := bytesL_get ws i (by omega)
      have h5 : ws.getD (i / 8) 0 / 2 ^ (i % 8 * 8) % 256 < 256 := Nat.mod_lt _ (by omega)
      show (List.map _ (List.take (k * 64) _))[i]? = _
      rw [List.getElem?_map, List.getElem?_take, if_pos hi]
      simp only [strOf, List.getElem?_map, h4, Option.map_some]
      rw [UInt8.toNat_ofNat_of_lt' (by simpa using h5)]
    · rw [List.getElem?_append_right (by rw [hl]; show min (bytesL ws).length (k * 64) ≤ i; omega), hl, List.getElem?_drop, List.getElem?_replicate]
      have e : Nat.min (bytesL ws).length (k * 64) + (i - Nat.min (bytesL ws).length (k * 64)) = i := by
        have : Nat.min (bytesL ws).length (k * 64) = (bytesL ws).length := Nat.min_eq_left (by omega)
        rw [this]; omega
      rw [e, if_pos hi, List.getD, List.getElem?_eq_none (by omega)]
      simp
  · rw [List.getElem?_eq_none (by rw [List.length_append, hl, List.length_drop, List.length_replicate]; omega), List.getElem?_eq_none (by simp [u8s, bytesL_len, resW_len]; omega)]
def ResNo (w : World) (e : Ending) (w' : World) : Prop := e = .returned (.tuple #[.agg #[Value.string ⟨#[]⟩], .int .i64 1]) ∧ Below w.heap.size w w'
end Go.Proofs.Ytjmdibgncaljaaa.Dev
