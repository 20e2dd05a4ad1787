/- The walk of row.Encode; the law's tables are good. -/
import Derived.Test.YtpjbcadelmjmfaaGreatDoorR10
import Derived.Test.YtpjbcadelmjmfaaGreatDoorR13
import Derived.Test.YtpjbcadelmjmfaaGreatDoorR14
namespace Go.Proofs.YtpjbcadelmjmfaaGreatDoor
open Go.RowKit Go.Lib

/-- A table that is valid. -/
structure TG (ver : Nat) (cs : List CV) : Prop where
  ok : TabOk cs
  pos : 0 < cs.length
  vok : VerIs ver cs 0
  lt : ver < 65536
theorem One.tag : One tagS 116 := ⟨.inr ⟨by omega, by omega⟩, 116, rfl, rfl⟩
theorem nm_one (k : Nat) (hk : k < 8) : One (nmOf k) (97 + k) := ⟨.inr ⟨by omega, by omega⟩, UInt8.ofNat (97 + k), by rw [UInt8.toNat_ofNat']; omega, rfl⟩
theorem nm_beq (i j : Nat) (hi : i < 8) (hj : j < 8) : ((nmOf i).toList == (nmOf j).toList) = decide (i = j) := by
  rw [ByteArray.toList_eq, ByteArray.toList_eq, Bool.eq_iff_iff]
  simp only [beq_iff_eq, decide_eq_true_eq]
  constructor
  · intro h
    have h2 : UInt8.ofNat (97 + i) = UInt8.ofNat (97 + j) := by
      have : ([UInt8.ofNat (97 + i)] : List UInt8) = [UInt8.ofNat (97 + j)] := h
      simpa using this
    have h3 := congrArg UInt8.toNat h2
    rw [UInt8.toNat_ofNat', UInt8.toNat_ofNat'] at h3
    omega
  · rintro rfl; rfl
theorem colsTo_get (l : List LC) (n k : Nat) (h : k < n) : (colsTo l n).getD k CV0 = colAt l k := by
  unfold colsTo
  rw [List.getD, List.getElem?_map, List.getElem?_range h]; rfl
theorem zero_fits (ty : Nat) (nl : Bool) (h : 1 ≤ ty ∧ ty ≤ 3) : fitsP ty nl (zeroV ty nl) = 0 := by
  have hv : validD [] = true := by unfold validD; rfl
  unfold fitsP zeroV formP
  rw [if_neg (by simp)]
  simp only
  rw [if_neg (by rintro (h1 | h1 | h1 | h1 | h1) <;> first | omega | (simp at h1)), if_neg (by
    rintro (h1 | h1 | h1)
    · omega
    · omega
    · rw [emp_list, hv] at h1; cases h1), if_neg (by show ¬ 200 < 0; omega)]
theorem df_fits (ty : Nat) (nl : Bool) (d : RV) (h : 1 ≤ ty ∧ ty ≤ 3) : fitsP ty nl (dfOf ty nl d) = 0 := by
  unfold dfOf
  by_cases h2 : fitsP ty nl d ≠ 0
  · rw [if_pos h2]; exact zero_fits ty nl h
  · rw [if_neg h2]; simpa using h2
theorem verAt_mono (l : List LC) (i : Nat) : verAt l i ≤ verAt l (i + 1) := by
  show _ ≤ if advB l i then _ else _
  split <;> omega
theorem verAt_le (l : List LC) (i : Nat) : ∀ j, verAt l i ≤ verAt l (i + j)
  | 0 => Nat.le_refl _
  | j + 1 => Nat.le_trans (verAt_le l i j) (verAt_mono l (i + j))
theorem tab_good (l : List LC) (n : Nat) (h0 : 0 < n) (h8 : n ≤ 8) (hf : ∀ c ∈ l, c.d.tx.size ≤ 9223372036854775807) : TG (verAt l n) (colsTo l n) := by
  have hbd := verAt_bd l n
  refine ⟨⟨?_, ?_, ?_, ?_⟩, ?_, ?_, by omega⟩
  · rw [colsTo_len]; omega
  · intro k hk
    rw [colsTo_len] at hk
    rw [colsTo_get l n k hk]
    exact ⟨_, nm_one k (by omega)⟩
  · intro k hk
    rw [colsTo_len] at hk
    right
    refine ⟨k, by rw [colsTo_len]; exact hk, rfl, ?_, ?_⟩
    · rw [colsTo_get l n k hk]; simp
    · intro j hj
      rw [colsTo_get l n k hk, colsTo_get l n j (by omega)]
      show ((nmOf j).toList == (nmOf k).toList) = false
      rw [nm_beq j k (by omega) (by omega)]
      exact decide_eq_false (by omega)
  · intro k hk
    rw [colsTo_len] at hk
    rw [colsTo_get l n k hk]
    refine ⟨df_fits _ _ _ ⟨by show 1 ≤ 1 + _ % 3; omega, by show 1 + _ % 3 ≤ 3; omega⟩, ?_⟩
    show (dfOf _ _ _).tx.size ≤ _
    unfold dfOf
    split
    · exact Nat.zero_le _
    · by_cases hkl : k < l.length
      · exact hf _ (List.mem_of_getElem? (get_lt LC0 hkl))
      · rw [List.getD, List.getElem?_eq_none (by omega)]; exact Nat.zero_le _
  · rw [colsTo_len]; exact h0
  · right
    refine ⟨rfl, by omega, by omega, ?_, ?_⟩
    · rw [colsTo_get l n 0 h0]
      show ((verAt l 1 : Nat) : Int) = 1
      have : verAt l 1 = 1 := by
        show (if advB l 0 then verAt l 0 + 1 else verAt l 0) = 1
        rw [if_neg (by unfold advB; simp)]; rfl
      rw [this]; rfl
    · intro j hj
      rw [colsTo_len] at hj
      rw [colsTo_get l n j hj]
      have h1 := verAt_le l (j + 1) (n - (j + 1))
      rw [show j + 1 + (n - (j + 1)) = n by omega] at h1
      have h2 := verAt_mono l j
      refine ⟨?_, by show ((verAt l (j + 1) : Nat) : Int) ≤ _; omega⟩
      unfold prevS
      split
      · show (1 : Int) ≤ ((verAt l (j + 1) : Nat) : Int)
        have := verAt_bd l (j + 1)
        omega
      · rename_i hj0
        rw [colsTo_get l n (j - 1) (by omega)]
        show ((verAt l (j - 1 + 1) : Nat) : Int) ≤ ((verAt l (j + 1) : Nat) : Int)
        rw [show j - 1 + 1 = j by omega]
        omega
theorem fitsGo_zero : ∀ (cs : List CV) (l : List RV), cs.length = l.length → fitsGo cs l = 0 → (∀ v ∈ l, formP v = 0)
  | [], [], _, _ => by simp
  | c :: cs, v :: l, h, hz => by
    unfold fitsGo at hz
    split at hz
    · rename_i h1; exact absurd hz h1
    · rename_i h1
      intro x hx
      rcases List.mem_cons.1 hx with rfl | hx
      · have h2 : fitsP c.ty c.nl x = 0 := by simpa using h1
        unfold fitsP at h2
        split at h2
        · cases h2
        · exact h2
      · exact fitsGo_zero cs l (by simpa using h) hz x hx
  | [], _ :: _, h, _ => by simp at h
  | _ :: _, [], h, _ => by simp at h
theorem rowP_ok {cs : List CV} {l : List RV} (h : rowP cs l = 0) : cs.length = l.length ∧ fitsGo cs l = 0 ∧ ∀ v ∈ l, formP v = 0 := by
  unfold rowP at h
  split at h
  · cases h
  · rename_i h1
    have h2 : cs.length = l.length := by simpa using h1
    exact ⟨h2, h, fitsGo_zero cs l h2 h⟩
theorem RowB.rebase {w w1 wr : World} {T : TypeId} {size n : Nat} {xs : List Value} {sa : Option Addr} {sc : Nat} (h : RowB w1 T size n xs sa sc wr) (hb : Below w.heap.size w w1) : RowB w T size n xs sa sc wr :=
  ⟨h.o, fun k hk => Nat.le_trans hb.size (h.ob k hk), hb.trans (h.b.mono hb.size)⟩
def tabV (tn : ByteArray) (ver : Int) (ca : Option Addr) (n cc : Nat) : Value := .agg #[.string tn, .int .i64 ver, .slice ca n cc, .slice none 0 0, .int .u64 0, .int .u64 0]
def EncPost (w : World) (ver : Nat) (l : List RV) (e : Ending) (w' : World) : Prop := ∃ sa sc, e = .returned (.tuple #[.slice sa (encP ver l).length sc, .int .i64 0]) ∧ RowB w 5 1 (encP ver l).length (bcells (encP ver l)) sa sc w'

section
variable {w : World} {ver : Nat} {cs : List CV} {ca : Option Addr} {cc : Nat} {l : List RV} {ra : Option Addr} {rc : Nat} {tn : ByteArray} {x0 : Nat}
theorem rowvalid_t (hn : One tn x0) (hg : TG ver cs) (hls : ∀ v ∈ l, v.tx.size ≤ 9223372036854775807) (hll : l.length ≤ 100000) (hr : Rd w (.slice ca cs.length cc) cs.length (cCells cs)) (hl : Rd w (.slice ra l.length rc) l.length (vCells l)) (hE : Env w) :
    Calls Tryz.prog 20 #[.agg #[.string tn, .int .i64 (ver : Int), .slice ca cs.length cc, .slice none 0 0, .int .u64 0, .int .u64 0], .slice ra l.length rc] w (RPost w (.int .i64 (rowP cs l : Nat))) :=
  rowvalid_any tn x0 hn ver cs hg.ok hg.pos hg.vok ca cc l hls hll ra rc w hr hl hE
set_option maxHeartbeats 2000000 in
theorem rowenc_ok (hn : One tn x0) (hg : TG ver cs) (hls : ∀ v ∈ l, v.tx.size ≤ 9223372036854775807) (hll : l.length ≤ 100000) (hr : Rd w (.slice ca cs.length cc) cs.length (cCells cs)) (hl : Rd w (.slice ra l.length rc) l.length (vCells l)) (hE : Env w) (hz : rowP cs l = 0) :
    Calls Tryz.prog 16 #[.agg #[.string tn, .int .i64 (ver : Int), .slice ca cs.length cc, .slice none 0 0, .int .u64 0, .int .u64 0], .slice ra l.length rc] w (EncPost w ver l) := by
  obtain ⟨h1, _, h3⟩ := rowP_ok hz
  have h8 := hg.ok.len
  obtain ⟨W, hW⟩ : ∃ W, W = w.alloc (.cells #[.string tn, .int .i64 (ver : Int), .slice ca cs.length cc, .slice none 0 0, .int .u64 0, .int .u64 0] 32) := ⟨_, rfl⟩
  have hT : Has W w.heap.size [.string tn, .int .i64 (ver : Int), .slice ca cs.length cc, .slice none 0 0, .int .u64 0, .int .u64 0] 32 := by rw [hW]; exact Has.new w _ _
  have hBW : Below w.heap.size w W := by rw [hW]; exact (Below.refl _ _).alloc (Nat.le_refl _) _
  have hv := rowvalid_t hn hg hls hll (hr.kept hBW) (hl.kept hBW) (hE.below hBW)
  rw [hz] at hv
  have he : ∀ w1, Below W.heap.size W w1 → Calls Tryz.prog 39 #[.int .i64 (ver : Int), .slice ra l.length rc] w1 (fun e w' => ∃ sa sc, e = .returned (.slice sa (encP ver l).length sc) ∧ EncPost w ver l (.returned (.tuple #[.slice sa (encP ver l).length sc, .int .i64 0])) w') := fun w1 hb =>
    (encode_any ver hg.lt l h3 (by omega) ra rc w1 ((hl.kept hBW).kept hb)).mono fun e w' ⟨sa, sc, he, hR⟩ => ⟨sa, sc, he, sa, sc, rfl, hR.rebase (hBW.trans (hb.mono hBW.size))⟩
  have ht1 := fun w1 (hb : Below W.heap.size W w1) => (hT.only (Only.of_below hb) (Nat.not_le.2 hT.lt)).cell (o := 1) rfl
  have t0 := hT.cell (o := 0) rfl
  have t1 := hT.cell (o := 1) rfl
  have t2 := hT.cell (o := 2) rfl
  have t3 := hT.cell (o := 3) rfl
  have t4 := hT.cell (o := 4) rfl
  have t5 := hT.cell (o := 5) rfl
  generalize EncPost w ver l = post at *
  generalize (encP ver l).length = N at *
  obtain ⟨n, hnn⟩ : ∃ n, n = cs.length := ⟨_, rfl⟩
  obtain ⟨m, hmm⟩ : ∃ n, n = l.length := ⟨_, rfl⟩
  rw [← hnn] at hW hv t2 ⊢
  rw [← hmm] at hv he ⊢
  replace hW := Lib.hid hW
  replace hv := Lib.hid hv
  replace he := Lib.hid he
  replace ht1 := Lib.hid ht1
  replace hnn := Lib.hid hnn
  replace hmm := Lib.hid hmm
  replace hz := Lib.hid hz
  replace h1 := Lib.hid h1
  clear hT hr hl hE hBW h3
  go_enter Tryz.func16, Tryz.ntmps16
  go_upto_region 1 with fail
  rw [← hW.out]
  go_wp2_with fail
  refine hv.out.mono ?_
  rintro e w1 ⟨rfl, hb1⟩
  have t1b := ht1.out w1 hb1
  have he1 := he.out w1 hb1
  replace he1 := Lib.hid he1
  clear t0 t1 t2 t3 t4 t5 he ht1 hv
  go_wp2_with fail
  refine he1.out.mono ?_
  rintro e w2 ⟨sa, sc, rfl, hp⟩
  replace hp := Lib.hid hp
  go_wp2_with fail
  first | exact hp.out | (go_ret2; exact hp.out)
set_option maxHeartbeats 2000000 in
theorem rowenc_bad (hn : One tn x0) (hg : TG ver cs) (hls : ∀ v ∈ l, v.tx.size ≤ 9223372036854775807) (hll : l.length ≤ 100000) (hr : Rd w (.slice ca cs.length cc) cs.length (cCells cs)) (hl : Rd w (.slice ra l.length rc) l.length (vCells l)) (hE : Env w) (hz : rowP cs l ≠ 0) :
    Calls Tryz.prog 16 #[.agg #[.string tn, .int .i64 (ver : Int), .slice ca cs.length cc, .slice none 0 0, .int .u64 0, .int .u64 0], .slice ra l.length rc] w (RPost w (.tuple #[.slice none 0 0, .int .i64 (rowP cs l : Nat)])) := by
  obtain ⟨W, hW⟩ : ∃ W, W = w.alloc (.cells #[.string tn, .int .i64 (ver : Int), .slice ca cs.length cc, .slice none 0 0, .int .u64 0, .int .u64 0] 32) := ⟨_, rfl⟩
  have hT : Has W w.heap.size [.string tn, .int .i64 (ver : Int), .slice ca cs.length cc, .slice none 0 0, .int .u64 0, .int .u64 0] 32 := by rw [hW]; exact Has.new w _ _
  have hBW : Below w.heap.size w W := by rw [hW]; exact (Below.refl _ _).alloc (Nat.le_refl _) _
  have hv := rowvalid_t hn hg hls hll (hr.kept hBW) (hl.kept hBW) (hE.below hBW)
  have t0 := hT.cell (o := 0) rfl
  have t1 := hT.cell (o := 1) rfl
  have t2 := hT.cell (o := 2) rfl
  have t3 := hT.cell (o := 3) rfl
  have t4 := hT.cell (o := 4) rfl
  have t5 := hT.cell (o := 5) rfl
  generalize rowP cs l = r at *
  obtain ⟨n, hnn⟩ : ∃ n, n = cs.length := ⟨_, rfl⟩
  obtain ⟨m, hmm⟩ : ∃ n, n = l.length := ⟨_, rfl⟩
  rw [← hnn] at hW hv t2 ⊢
  rw [← hmm] at hv ⊢
  have hrI : ((r : Int) != 0) = true := by simp [hz]
  replace hW := Lib.hid hW
  replace hv := Lib.hid hv
  replace hnn := Lib.hid hnn
  replace hmm := Lib.hid hmm
  replace hz := Lib.hid hz
  replace hBW := Lib.hid hBW
  clear hT hr hl hE
  go_enter Tryz.func16, Tryz.ntmps16
  go_upto_region 1 with fail
  rw [← hW.out]
  go_wp2_with fail
  refine hv.out.mono ?_
  rintro e w1 ⟨rfl, hb1⟩
  have hB := hBW.out.trans (hb1.mono hBW.out.size)
  replace hB := Lib.hid hB
  clear t0 t1 t2 t3 t4 t5 hv hb1
  go_wp2_with fail
  go_ret2
  exact ⟨rfl, hB.out⟩
end
end Go.Proofs.YtpjbcadelmjmfaaGreatDoor
