/- The walk of row.Valid. The walk of the law's table. The walk of quoted. The walk of Literal. The walk of row.Encode; the law's tables are good. The walk of the law's awake. -/
import Derived.Test.YtgnoikfmhncbmaaGreatDoorR9
import Derived.Test.YtgnoikfmhncbmaaGreatDoorR8
import Derived.Laws.IdiomStrings
import Derived.Test.YtgnoikfmhncbmaaGreatDoorR3
import Derived.Test.YtgnoikfmhncbmaaGreatDoorRu
set_option linter.unusedVariables false
set_option linter.unusedSimpArgs false
namespace Go.Proofs.YtgnoikfmhncbmaaGreatDoor
open Go.RowKit Go.Lib

theorem fitsGo_all : ∀ (cs : List CV) (l : List RV), cs.length = l.length → (∀ j, j < cs.length → fitsP (cs.getD j CV0).ty (cs.getD j CV0).nl (l.getD j RV0) = 0) → fitsGo cs l = 0
  | [], [], _, _ => rfl
  | c :: cs, v :: l, h, hj => by
    have h0 := hj 0 (by simp)
    simp only [List.getD_cons_zero] at h0
    unfold fitsGo
    rw [if_neg (by rw [h0]; simp)]
    exact fitsGo_all cs l (by simpa using h) (fun j hl => by have := hj (j + 1) (by simp; omega); simpa using this)
  | [], _ :: _, h, _ => by simp at h
  | _ :: _, [], h, _ => by simp at h
theorem fitsGo_hit : ∀ (cs : List CV) (l : List RV) (k : Nat), cs.length = l.length → k < cs.length → (∀ j, j < k → fitsP (cs.getD j CV0).ty (cs.getD j CV0).nl (l.getD j RV0) = 0) →
    fitsP (cs.getD k CV0).ty (cs.getD k CV0).nl (l.getD k RV0) ≠ 0 → fitsGo cs l = fitsP (cs.getD k CV0).ty (cs.getD k CV0).nl (l.getD k RV0)
  | c :: cs, v :: l, 0, h, hk, hj, hn => by
    simp only [List.getD_cons_zero] at hn ⊢
    unfold fitsGo
    rw [if_pos hn]
  | c :: cs, v :: l, k + 1, h, hk, hj, hn => by
    have h0 := hj 0 (by omega)
    simp only [List.getD_cons_zero] at h0
    simp only [List.getD_cons_succ] at hn ⊢
    unfold fitsGo
    rw [if_neg (by rw [h0]; simp)]
    exact fitsGo_hit cs l k (by simpa using h) (by simpa using hk) (fun j hl => by have := hj (j + 1) (by omega); simpa using this) hn
  | [], [], _, _, hk, _, _ => by simp at hk
  | [], _ :: _, _, h, _, _, _ => by simp at h
  | _ :: _, [], _, h, _, _, _ => by simp at h

end Go.Proofs.YtgnoikfmhncbmaaGreatDoor

namespace Go.Proofs.YtgnoikfmhncbmaaGreatDoor
open Go.RowKit Go.Lib Go.BigFrame

structure LC where
  t : Nat
  nl : Bool
  d : RV
  nx : Bool
def LC0 : LC := ⟨0, false, RV0, false⟩
def LC.cells (c : LC) : List Value := [.int .u8 (c.t : Int), .bool c.nl, .int .u8 (c.d.ty : Int), .bool c.d.nl, .int .i64 c.d.n, .string c.d.tx, .bool c.d.b, .bool c.nx]
def lCells (l : List LC) : List Value := l.flatMap LC.cells
theorem Rd.lc {w : World} {a : Option Addr} {cap : Nat} {l : List LC} (hr : Rd w (.slice a l.length cap) l.length (lCells l)) {k : Nat} (hk : k < l.length) :
    ∃ bl ol cl, Value.slice a l.length cap = .slice (some ⟨bl, ol, none⟩) l.length cl ∧ ∀ j v, (l.getD k LC0).cells[j]? = some v → w.cell? ⟨bl, ol + k * 8 + j, none⟩ = some v := by
  obtain ⟨bl, ol, cl, ea, fa⟩ := hr.cells (by omega)
  exact ⟨bl, ol, cl, ea, fun j v hj => by rw [Nat.add_assoc]; exact fa _ _ (flat_get (f := LC.cells) (n := 8) (fun _ => rfl) l k _ (get_lt LC0 hk) j v hj)⟩
def nmOf (k : Nat) : ByteArray := ⟨#[UInt8.ofNat (97 + k)]⟩
theorem conv_one (k : Nat) (hk : k < 8) (b : Nat) (w : World) (hc : w.cell? ⟨b, 0, none⟩ = some (.int .u8 (97 + (k : Int)))) : (convert 74 9 (.slice (some ⟨b, 0, none⟩) 1 1)).run Tryz.prog w = .ok (.string (nmOf k)) w := by
  have := run_convert_bytes_back (P := Tryz.prog) w 74 9 5 ⟨b, 0, none⟩ 1 [UInt8.ofNat (97 + k)] Tryz.underlying74 Tryz.underlying5 Tryz.underlying9 (fun j hj => by
    simp only [List.length_singleton] at hj
    obtain rfl : j = 0 := by omega
    have e : (⟨b, 0, none⟩ : Addr).add 0 = ⟨b, 0, none⟩ := rfl
    rw [e, hc]
    simp only [List.getElem_cons_zero]
    congr 2
    have : (UInt8.ofNat (97 + k)).toNat = 97 + k := by rw [UInt8.toNat_ofNat']; omega
    rw [this]; omega)
  exact this
def advB (l : List LC) (k : Nat) : Bool := (l.getD k LC0).nx && decide (0 < k)
def verAt (l : List LC) : Nat → Nat
  | 0 => 1
  | k + 1 => if advB l k then verAt l k + 1 else verAt l k
theorem verAt_bd (l : List LC) : ∀ k, 1 ≤ verAt l k ∧ verAt l k ≤ k + 1
  | 0 => by simp [verAt]
  | k + 1 => by
    have := verAt_bd l k
    unfold verAt
    split <;> omega
def dfOf (ty : Nat) (nl : Bool) (d : RV) : RV := if fitsP ty nl d ≠ 0 then zeroV ty nl else d
def colAt (l : List LC) (k : Nat) : CV := ⟨nmOf k, 1 + (l.getD k LC0).t % 3, (l.getD k LC0).nl, (verAt l (k + 1) : Nat), dfOf (1 + (l.getD k LC0).t % 3) (l.getD k LC0).nl (l.getD k LC0).d⟩
def colsTo (l : List LC) (k : Nat) : List CV := (List.range k).map (colAt l)
theorem colsTo_len (l : List LC) (k : Nat) : (colsTo l k).length = k := by simp [colsTo]
theorem colsTo_succ (l : List LC) (k : Nat) : colsTo l (k + 1) = colsTo l k ++ [colAt l k] := by simp [colsTo, List.range_succ]
def tagS : ByteArray := ⟨#[116]⟩

/-- The table under construction: its box, its result's box, its columns. -/
structure TabS (w : World) (ver : Nat) (cs : List CV) (k : Nat) (sa : Option Addr) (sc : Nat) (wr : World) : Prop where
  len : cs.length = k
  t : Has wr (w.heap.size + 1) [.string tagS, .int .i64 (ver : Int), .slice sa k sc, .slice none 0 0, .int .u64 0, .int .u64 0] 59
  z : Has wr w.heap.size [.string ⟨#[]⟩, .int .i64 0, .slice none 0 0, .slice none 0 0, .int .u64 0, .int .u64 0] 59
  o : wr.ownsRow 0 108 9 (.slice sa k sc) k (cCells cs)
  ob : ∀ j, Value.ownBlock (.slice sa k sc) = some j → w.heap.size + 2 ≤ j
  b : Below w.heap.size w wr
theorem TabS.below {w wr wr2 : World} {ver k : Nat} {cs : List CV} {sa : Option Addr} {sc : Nat} (h : TabS w ver cs k sa sc wr) (hb : Below wr.heap.size wr wr2) : TabS w ver cs k sa sc wr2 :=
  ⟨h.len, h.t.only (Only.of_below hb) (Nat.not_le.2 h.t.lt), h.z.only (Only.of_below hb) (Nat.not_le.2 h.z.lt), ownsRow_only h.o (Only.of_below hb) (fun k hk e => by have := ownsRow_lt h.o hk; omega), h.ob, h.b.trans (hb.mono h.b.size)⟩
theorem TabS.setver {w wr : World} {ver k : Nat} {cs : List CV} {sa : Option Addr} {sc : Nat} (h : TabS w ver cs k sa sc wr) (v2 : Nat) : TabS w v2 cs k sa sc (wr.setCell ⟨w.heap.size + 1, 1, none⟩ (.int .i64 (v2 : Int))) := by
  refine ⟨h.len, h.t.set 1 _, h.z.set_ne (by show w.heap.size ≠ w.heap.size + 1; omega) _, ?_, h.ob, h.b.setCell (by show w.heap.size ≤ w.heap.size + 1; omega) _⟩
  exact ownsRow_only h.o (S := fun j => j = w.heap.size + 1) (Only.setCell (S := fun j => j = w.heap.size + 1) (Only.refl _ _) (a := ⟨w.heap.size + 1, 1, none⟩) (fun _ => rfl) _) (fun j hj e => by have := h.ob j hj; omega)
theorem TabS.app {w w1 w2 : World} {ver k : Nat} {cs : List CV} {c : CV} {sa sa' : Option Addr} {sc sc' : Nat} (h : TabS w ver cs k sa sc w1)
    (own : w2.ownsRow 0 108 9 (.slice sa' (k + 1) sc') (k + 1) (cCells cs ++ c.cells)) (only : Only (fun j => Value.ownBlock (.slice sa k sc) = some j) w1 w2)
    (fresh : ∀ j, Value.ownBlock (.slice sa' (k + 1) sc') = some j → Value.ownBlock (.slice sa k sc) = some j ∨ w1.heap.size ≤ j) :
    TabS w ver (cs ++ [c]) (k + 1) sa' sc' (w2.setCell ⟨w.heap.size + 1, 2, none⟩ (.slice sa' (k + 1) sc')) := by
  have hlt := h.t.lt
  have hob : ∀ j, Value.ownBlock (.slice sa' (k + 1) sc') = some j → w.heap.size + 2 ≤ j := by
    intro j hj
    rcases fresh j hj with h1 | h1
    · exact h.ob j h1
    · omega
  have ht2 := h.t.only only (fun e => by have := h.ob _ e; omega)
  have hz2 := h.z.only only (fun e => by have := h.ob _ e; omega)
  refine ⟨by rw [List.length_append, h.len]; rfl, ht2.set 2 _, hz2.set_ne (by show w.heap.size ≠ w.heap.size + 1; omega) _, ?_, hob, ?_⟩
  · rw [cc_snoc]
    exact ownsRow_only own (S := fun j => j = w.heap.size + 1) (Only.setCell (S := fun j => j = w.heap.size + 1) (Only.refl _ _) (a := ⟨w.heap.size + 1, 2, none⟩) (fun _ => rfl) _) (fun j hj e => by have := hob j hj; omega)
  · exact (h.b.trans (only.below (B := w.heap.size) h.b.size (fun j _ e => by have := h.ob j e; omega))).setCell (by show w.heap.size ≤ w.heap.size + 1; omega) _
theorem TabS.head {w wr : World} {ver k : Nat} {cs : List CV} {sa : Option Addr} {sc : Nat} (h : TabS w ver cs k sa sc wr) : Below w.heap.size w wr := h.b
theorem infoColB : (Tryz.prog.info? 108).map (fun i => (i.zero, i.size, i.bytes)) = some (some (.agg #[.string ByteArray.empty, .int .u8 0, .bool false, .int .i64 0, .int .u8 0, .bool false, .int .i64 0, .string ByteArray.empty, .bool false]), 9, 72) := by kernel_rfl
def TablePost (w : World) (l : List LC) (e : Ending) (w' : World) : Prop :=
  ∃ sa sc, e = .returned (.agg #[.string tagS, .int .i64 (verAt l (min l.length 8) : Nat), .slice sa (min l.length 8) sc, .slice none 0 0, .int .u64 0, .int .u64 0]) ∧ RowB w 108 9 (min l.length 8) (cCells (colsTo l (min l.length 8))) sa sc w'
end Go.Proofs.YtgnoikfmhncbmaaGreatDoor

namespace Go.Proofs.YtgnoikfmhncbmaaGreatDoor
open Go.RowKit Go.Lib

def LitPost (w : World) (x : RV × Nat) (e : Ending) (w' : World) : Prop := e = .returned (.tuple #[x.1.val, .int .i64 (x.2 : Nat)]) ∧ Below w.heap.size w w'
theorem bneq (a b : ByteArray) : (a.toList != b.toList) = decide (a.data.toList ≠ b.data.toList) := by
  rw [ByteArray.toList_eq, ByteArray.toList_eq, Bool.eq_iff_iff]; simp
theorem mk_data (l : List UInt8) : (⟨l.toArray⟩ : ByteArray).data.toList = l := rfl
theorem mk_size (l : List UInt8) : (⟨l.toArray⟩ : ByteArray).size = l.length := by show l.toArray.size = _; simp
end Go.Proofs.YtgnoikfmhncbmaaGreatDoor

namespace Go.Proofs.YtgnoikfmhncbmaaGreatDoor
open Go.RowKit Go.Lib

theorem beqL (a : ByteArray) (l : List UInt8) : (a.toList == l) = decide (a.data.toList = l) := by
  rw [ByteArray.toList_eq, Bool.eq_iff_iff]; simp
theorem num_parse {l : List UInt8} (hd : allDig (trimPrefix l [45]) = true) (hne : trimPrefix l [45] ≠ []) : (∃ v, parseIntB 32 l = .ok v) ∨ parseIntB 32 l = .range := by
  unfold trimPrefix at hd hne
  by_cases hp : hasPrefix l [45] = true
  · rw [if_pos hp] at hd hne
    have : ∃ r, l = 45 :: r := by
      cases l with
      | nil => simp [hasPrefix] at hp
      | cons c r =>
        refine ⟨r, ?_⟩
        simp [hasPrefix, List.isPrefixOf] at hp
        rw [hp]
    obtain ⟨r, rfl⟩ := this
    simp at hd hne
    rw [parse_neg r hne hd]
    split
    · exact .inl ⟨_, rfl⟩
    · exact .inr rfl
  · rw [if_neg hp] at hd hne
    rw [parse_pos l hne hd]
    split
    · exact .inl ⟨_, rfl⟩
    · exact .inr rfl
theorem mid_data (s : ByteArray) : (s.extract 1 (s.size - 1)).data.toList = (s.data.toList.take (s.data.toList.length - 1)).drop 1 := by
  have : s.data.toList.length = s.size := by simp
  rw [extract_data, this, List.drop_take]
end Go.Proofs.YtgnoikfmhncbmaaGreatDoor

namespace Go.Proofs.YtgnoikfmhncbmaaGreatDoor
open Go.RowKit Go.Lib

/-- A table that is valid. -/
structure TG (ver : Nat) (cs : List CV) : Prop where
  ok : TabOk cs
  pos : 0 < cs.length
  vok : VerIs ver cs 0
  lt : ver < 65536
theorem One.tag : One tagS 116 := ⟨.inr ⟨by omega, by omega⟩, 116, rfl, rfl⟩
theorem nm_one (k : Nat) (hk : k < 8) : One (nmOf k) (97 + k) := ⟨.inr ⟨by omega, by omega⟩, UInt8.ofNat (97 + k), by rw [UInt8.toNat_ofNat']; omega, rfl⟩
theorem nm_beq (i j : Nat) (hi : i < 8) (hj : j < 8) : ((nmOf i).toList == (nmOf j).toList) = decide (i = j) := by
  rw [ByteArray.toList_eq, ByteArray.toList_eq, Bool.eq_iff_iff]
  simp only [beq_iff_eq, decide_eq_true_eq]
  constructor
  · intro h
    have h2 : UInt8.ofNat (97 + i) = UInt8.ofNat (97 + j) := by
      have : ([UInt8.ofNat (97 + i)] : List UInt8) = [UInt8.ofNat (97 + j)] := h
      simpa using this
    have h3 := congrArg UInt8.toNat h2
    rw [UInt8.toNat_ofNat', UInt8.toNat_ofNat'] at h3
    omega
  · rintro rfl; rfl
theorem colsTo_get (l : List LC) (n k : Nat) (h : k < n) : (colsTo l n).getD k CV0 = colAt l k := by
  unfold colsTo
  rw [List.getD, List.getElem?_map, List.getElem?_range h]; rfl
theorem zero_fits (ty : Nat) (nl : Bool) (h : 1 ≤ ty ∧ ty ≤ 3) : fitsP ty nl (zeroV ty nl) = 0 := by
  have hv : validD [] = true := by unfold validD; rfl
  unfold fitsP zeroV formP
  rw [if_neg (by simp)]
  simp only
  rw [if_neg (by rintro (h1 | h1 | h1 | h1 | h1) <;> first | omega | (simp at h1)), if_neg (by
    rintro (h1 | h1 | h1)
    · omega
    · omega
    · rw [emp_list, hv] at h1; cases h1), if_neg (by show ¬ 200 < 0; omega)]
theorem df_fits (ty : Nat) (nl : Bool) (d : RV) (h : 1 ≤ ty ∧ ty ≤ 3) : fitsP ty nl (dfOf ty nl d) = 0 := by
  unfold dfOf
  by_cases h2 : fitsP ty nl d ≠ 0
  · rw [if_pos h2]; exact zero_fits ty nl h
  · rw [if_neg h2]; simpa using h2
theorem verAt_mono (l : List LC) (i : Nat) : verAt l i ≤ verAt l (i + 1) := by
  show _ ≤ if advB l i then _ else _
  split <;> omega
theorem verAt_le (l : List LC) (i : Nat) : ∀ j, verAt l i ≤ verAt l (i + j)
  | 0 => Nat.le_refl _
  | j + 1 => Nat.le_trans (verAt_le l i j) (verAt_mono l (i + j))
theorem tab_good (l : List LC) (n : Nat) (h0 : 0 < n) (h8 : n ≤ 8) (hf : ∀ c ∈ l, c.d.tx.size ≤ 9223372036854775807) : TG (verAt l n) (colsTo l n) := by
  have hbd := verAt_bd l n
  refine ⟨⟨?_, ?_, ?_, ?_⟩, ?_, ?_, by omega⟩
  · rw [colsTo_len]; omega
  · intro k hk
    rw [colsTo_len] at hk
    rw [colsTo_get l n k hk]
    exact ⟨_, nm_one k (by omega)⟩
  · intro k hk
    rw [colsTo_len] at hk
    right
    refine ⟨k, by rw [colsTo_len]; exact hk, rfl, ?_, ?_⟩
    · rw [colsTo_get l n k hk]; simp
    · intro j hj
      rw [colsTo_get l n k hk, colsTo_get l n j (by omega)]
      show ((nmOf j).toList == (nmOf k).toList) = false
      rw [nm_beq j k (by omega) (by omega)]
      exact decide_eq_false (by omega)
  · intro k hk
    rw [colsTo_len] at hk
    rw [colsTo_get l n k hk]
    refine ⟨df_fits _ _ _ ⟨by show 1 ≤ 1 + _ % 3; omega, by show 1 + _ % 3 ≤ 3; omega⟩, ?_⟩
    show (dfOf _ _ _).tx.size ≤ _
    unfold dfOf
    split
    · exact Nat.zero_le _
    · by_cases hkl : k < l.length
      · exact hf _ (List.mem_of_getElem? (get_lt LC0 hkl))
      · rw [List.getD, List.getElem?_eq_none (by omega)]; exact Nat.zero_le _
  · rw [colsTo_len]; exact h0
  · right
    refine ⟨rfl, by omega, by omega, ?_, ?_⟩
    · rw [colsTo_get l n 0 h0]
      show ((verAt l 1 : Nat) : Int) = 1
      have : verAt l 1 = 1 := by
        show (if advB l 0 then verAt l 0 + 1 else verAt l 0) = 1
        rw [if_neg (by unfold advB; simp)]; rfl
      rw [this]; rfl
    · intro j hj
      rw [colsTo_len] at hj
      rw [colsTo_get l n j hj]
      have h1 := verAt_le l (j + 1) (n - (j + 1))
      rw [show j + 1 + (n - (j + 1)) = n by omega] at h1
      have h2 := verAt_mono l j
      refine ⟨?_, by show ((verAt l (j + 1) : Nat) : Int) ≤ _; omega⟩
      unfold prevS
      split
      · show (1 : Int) ≤ ((verAt l (j + 1) : Nat) : Int)
        have := verAt_bd l (j + 1)
        omega
      · rename_i hj0
        rw [colsTo_get l n (j - 1) (by omega)]
        show ((verAt l (j - 1 + 1) : Nat) : Int) ≤ ((verAt l (j + 1) : Nat) : Int)
        rw [show j - 1 + 1 = j by omega]
        omega
theorem fitsGo_zero : ∀ (cs : List CV) (l : List RV), cs.length = l.length → fitsGo cs l = 0 → (∀ v ∈ l, formP v = 0)
  | [], [], _, _ => by simp
  | c :: cs, v :: l, h, hz => by
    unfold fitsGo at hz
    split at hz
    · rename_i h1; exact absurd hz h1
    · rename_i h1
      intro x hx
      rcases List.mem_cons.1 hx with rfl | hx
      · have h2 : fitsP c.ty c.nl x = 0 := by simpa using h1
        unfold fitsP at h2
        split at h2
        · cases h2
        · exact h2
      · exact fitsGo_zero cs l (by simpa using h) hz x hx
  | [], _ :: _, h, _ => by simp at h
  | _ :: _, [], h, _ => by simp at h
theorem rowP_ok {cs : List CV} {l : List RV} (h : rowP cs l = 0) : cs.length = l.length ∧ fitsGo cs l = 0 ∧ ∀ v ∈ l, formP v = 0 := by
  unfold rowP at h
  split at h
  · cases h
  · rename_i h1
    have h2 : cs.length = l.length := by simpa using h1
    exact ⟨h2, h, fitsGo_zero cs l h2 h⟩
theorem RowB.rebase {w w1 wr : World} {T : TypeId} {size n : Nat} {xs : List Value} {sa : Option Addr} {sc : Nat} (h : RowB w1 T size n xs sa sc wr) (hb : Below w.heap.size w w1) : RowB w T size n xs sa sc wr :=
  ⟨h.o, fun k hk => Nat.le_trans hb.size (h.ob k hk), hb.trans (h.b.mono hb.size)⟩
def tabV (tn : ByteArray) (ver : Int) (ca : Option Addr) (n cc : Nat) : Value := .agg #[.string tn, .int .i64 ver, .slice ca n cc, .slice none 0 0, .int .u64 0, .int .u64 0]
def EncPost (w : World) (ver : Nat) (l : List RV) (e : Ending) (w' : World) : Prop := ∃ sa sc, e = .returned (.tuple #[.slice sa (encP ver l).length sc, .int .i64 0]) ∧ RowB w 5 1 (encP ver l).length (bcells (encP ver l)) sa sc w'

end Go.Proofs.YtgnoikfmhncbmaaGreatDoor

namespace Go.Proofs.YtgnoikfmhncbmaaGreatDoor
open Go.RowKit Go.Lib

/-- string(b), of a slice of bytes that is not empty. -/
theorem conv_rd {w : World} {a : Option Addr} {c : Nat} {l : List Nat} (hr : Rd w (.slice a l.length c) l.length (bcells l)) (hb : ∀ x ∈ l, x < 256) (hn : 0 < l.length) : (convert 74 9 (.slice a l.length c)).run Tryz.prog w = .ok (.string (strOfNats l)) w := by
  obtain ⟨bl, ol, cl, ea, fa⟩ := hr.cells hn
  simp only [Value.slice.injEq, true_and] at ea
  obtain ⟨rfl, rfl⟩ := ea
  have := run_convert_bytes_back (P := Tryz.prog) w 74 9 5 ⟨bl, ol, none⟩ c (bytesOf l) Tryz.underlying74 Tryz.underlying5 Tryz.underlying9 (fun j hj => by
    unfold bytesOf at hj
    rw [List.length_map] at hj
    have hx := hb _ (List.mem_of_getElem? (get_lt 0 hj))
    have h1 := fa _ _ (bcells_get l j hj)
    have e : (⟨bl, ol, none⟩ : Addr).add j = ⟨bl, ol + j, none⟩ := by unfold Addr.add; split <;> simp_all
    rw [e, h1]
    congr 2
    unfold bytesOf
    rw [List.getElem_map]
    have e2 : l[j] = l.getD j 0 := by rw [List.getD, List.getElem?_eq_getElem hj]; rfl
    rw [e2, UInt8.toNat_ofNat']
    omega)
  have e3 : (bytesOf l).length = l.length := by unfold bytesOf; simp
  rw [e3] at this
  exact this
theorem valid_ascii : ∀ l : List UInt8, (∀ c ∈ l, c.toNat < 128) → validD l = true
  | [], _ => by unfold validD; rfl
  | c :: l, h => by
    rw [validD_stepR _ (by simp)]
    have hc := h c (by simp)
    have : stepR (c :: l).length ((c :: l).getD 0 0).toNat ((c :: l).getD 1 0).toNat ((c :: l).getD 2 0).toNat ((c :: l).getD 3 0).toNat = some 1 := by
      unfold stepR
      have e : (c :: l).getD 0 0 = c := rfl
      rw [e, if_pos hc]
    rw [this]
    exact valid_ascii l (fun x hx => h x (by simp [hx]))

def awL : List LC := [⟨0, false, RV0, false⟩, ⟨1, false, RV0, false⟩]
def hiS : ByteArray := ⟨#[104, 105]⟩
def awR : List RV := [⟨1, false, 258, ByteArray.empty, false⟩, ⟨2, false, 0, hiS, false⟩]
def awT : List UInt8 := [39, 105, 116, 39, 39, 115, 39]
def itS : ByteArray := ⟨#[105, 116, 39, 115]⟩
def awN : List UInt8 := [50, 49, 52, 55, 52, 56, 51, 54, 52, 56]
theorem aw_form1 : formP ⟨1, false, 258, ByteArray.empty, false⟩ = 0 := by
  have hv : validD [] = true := by unfold validD; rfl
  unfold formP
  simp only [emp_list, hv]
  decide
theorem aw_form2 : formP ⟨2, false, 0, hiS, false⟩ = 0 := by
  have hv : validD hiS.data.toList = true := valid_ascii _ (by decide)
  unfold formP
  simp only [hv]
  decide
theorem aw_row : rowP (colsTo awL 2) awR = 0 := by
  unfold rowP
  rw [if_neg (by decide)]
  show (if fitsP 1 false ⟨1, false, 258, ByteArray.empty, false⟩ ≠ 0 then _ else if fitsP 2 false ⟨2, false, 0, hiS, false⟩ ≠ 0 then _ else 0) = 0
  have e1 : fitsP 1 false ⟨1, false, 258, ByteArray.empty, false⟩ = 0 := by unfold fitsP; rw [if_neg (by decide)]; exact aw_form1
  have e2 : fitsP 2 false ⟨2, false, 0, hiS, false⟩ = 0 := by unfold fitsP; rw [if_neg (by decide)]; exact aw_form2
  rw [e1, e2]; rfl
theorem aw_enc : encP 1 awR = [1, 0, 0, 2, 1, 0, 0, 2, 104, 105] := by decide
theorem aw_lit1 : litP awT = (⟨2, false, 0, itS, false⟩, 0) := by
  have hv : validD [105, 116, 39, 115] = true := valid_ascii _ (by decide)
  unfold litP
  rw [if_neg (by decide), if_neg (by decide), if_pos (by decide)]
  have e : (awT.take (awT.length - 1)).drop 1 = [105, 116, 39, 39, 115] := by decide
  have u : unq [105, 116, 39, 39, 115] = some [105, 116, 39, 115] := by decide
  rw [e]
  unfold quotP
  rw [u]
  simp only [hv]
  rfl
theorem aw_lit2 : litP awN = (badV, 16) := by
  unfold litP
  rw [if_neg (by decide), if_neg (by decide), if_neg (by decide)]
  have e : trimPrefix awN [45] = awN := by decide
  unfold numP
  rw [e]
  simp only
  rw [if_neg (by decide), parse_pos awN (by decide) (by decide), if_neg (by decide)]
theorem aw_ver : verAt awL 2 = 1 := by decide

end Go.Proofs.YtgnoikfmhncbmaaGreatDoor
