/- The walk of the law's table. -/
import Derived.Test.YtpjbcadelmjmfaaGreatDoorR12
import Derived.Test.YtpjbcadelmjmfaaGreatDoorR7
import Derived.Laws.IdiomStrings
namespace Go.Proofs.YtpjbcadelmjmfaaGreatDoor
open Go.RowKit Go.Lib Go.BigFrame

structure LC where
  t : Nat
  nl : Bool
  d : RV
  nx : Bool
def LC0 : LC := ⟨0, false, RV0, false⟩
def LC.cells (c : LC) : List Value := [.int .u8 (c.t : Int), .bool c.nl, .int .u8 (c.d.ty : Int), .bool c.d.nl, .int .i64 c.d.n, .string c.d.tx, .bool c.d.b, .bool c.nx]
def lCells (l : List LC) : List Value := l.flatMap LC.cells
theorem Rd.lc {w : World} {a : Option Addr} {cap : Nat} {l : List LC} (hr : Rd w (.slice a l.length cap) l.length (lCells l)) {k : Nat} (hk : k < l.length) :
    ∃ bl ol cl, Value.slice a l.length cap = .slice (some ⟨bl, ol, none⟩) l.length cl ∧ ∀ j v, (l.getD k LC0).cells[j]? = some v → w.cell? ⟨bl, ol + k * 8 + j, none⟩ = some v := by
  obtain ⟨bl, ol, cl, ea, fa⟩ := hr.cells (by omega)
  exact ⟨bl, ol, cl, ea, fun j v hj => by rw [Nat.add_assoc]; exact fa _ _ (flat_get (f := LC.cells) (n := 8) (fun _ => rfl) l k _ (get_lt LC0 hk) j v hj)⟩
def nmOf (k : Nat) : ByteArray := ⟨#[UInt8.ofNat (97 + k)]⟩
theorem conv_one (k : Nat) (hk : k < 8) (b : Nat) (w : World) (hc : w.cell? ⟨b, 0, none⟩ = some (.int .u8 (97 + (k : Int)))) : (convert 34 9 (.slice (some ⟨b, 0, none⟩) 1 1)).run Tryz.prog w = .ok (.string (nmOf k)) w := by
  have := run_convert_bytes_back (P := Tryz.prog) w 34 9 5 ⟨b, 0, none⟩ 1 [UInt8.ofNat (97 + k)] Tryz.underlying34 Tryz.underlying5 Tryz.underlying9 (fun j hj => by
    simp only [List.length_singleton] at hj
    obtain rfl : j = 0 := by omega
    have e : (⟨b, 0, none⟩ : Addr).add 0 = ⟨b, 0, none⟩ := rfl
    rw [e, hc]
    simp only [List.getElem_cons_zero]
    congr 2
    have : (UInt8.ofNat (97 + k)).toNat = 97 + k := by rw [UInt8.toNat_ofNat']; omega
    rw [this]; omega)
  exact this
def advB (l : List LC) (k : Nat) : Bool := (l.getD k LC0).nx && decide (0 < k)
def verAt (l : List LC) : Nat → Nat
  | 0 => 1
  | k + 1 => if advB l k then verAt l k + 1 else verAt l k
theorem verAt_bd (l : List LC) : ∀ k, 1 ≤ verAt l k ∧ verAt l k ≤ k + 1
  | 0 => by simp [verAt]
  | k + 1 => by
    have := verAt_bd l k
    unfold verAt
    split <;> omega
def dfOf (ty : Nat) (nl : Bool) (d : RV) : RV := if fitsP ty nl d ≠ 0 then zeroV ty nl else d
def colAt (l : List LC) (k : Nat) : CV := ⟨nmOf k, 1 + (l.getD k LC0).t % 3, (l.getD k LC0).nl, (verAt l (k + 1) : Nat), dfOf (1 + (l.getD k LC0).t % 3) (l.getD k LC0).nl (l.getD k LC0).d⟩
def colsTo (l : List LC) (k : Nat) : List CV := (List.range k).map (colAt l)
theorem colsTo_len (l : List LC) (k : Nat) : (colsTo l k).length = k := by simp [colsTo]
theorem colsTo_succ (l : List LC) (k : Nat) : colsTo l (k + 1) = colsTo l k ++ [colAt l k] := by simp [colsTo, List.range_succ]
def tagS : ByteArray := ⟨#[116]⟩

/-- The table under construction: its box, its result's box, its columns. -/
structure TabS (w : World) (ver : Nat) (cs : List CV) (k : Nat) (sa : Option Addr) (sc : Nat) (wr : World) : Prop where
  len : cs.length = k
  t : Has wr (w.heap.size + 1) [.string tagS, .int .i64 (ver : Int), .slice sa k sc, .slice none 0 0, .int .u64 0, .int .u64 0] 32
  z : Has wr w.heap.size [.string ⟨#[]⟩, .int .i64 0, .slice none 0 0, .slice none 0 0, .int .u64 0, .int .u64 0] 32
  o : wr.ownsRow 0 78 9 (.slice sa k sc) k (cCells cs)
  ob : ∀ j, Value.ownBlock (.slice sa k sc) = some j → w.heap.size + 2 ≤ j
  b : Below w.heap.size w wr
theorem TabS.below {w wr wr2 : World} {ver k : Nat} {cs : List CV} {sa : Option Addr} {sc : Nat} (h : TabS w ver cs k sa sc wr) (hb : Below wr.heap.size wr wr2) : TabS w ver cs k sa sc wr2 :=
  ⟨h.len, h.t.only (Only.of_below hb) (Nat.not_le.2 h.t.lt), h.z.only (Only.of_below hb) (Nat.not_le.2 h.z.lt), ownsRow_only h.o (Only.of_below hb) (fun k hk e => by have := ownsRow_lt h.o hk; omega), h.ob, h.b.trans (hb.mono h.b.size)⟩
theorem TabS.setver {w wr : World} {ver k : Nat} {cs : List CV} {sa : Option Addr} {sc : Nat} (h : TabS w ver cs k sa sc wr) (v2 : Nat) : TabS w v2 cs k sa sc (wr.setCell ⟨w.heap.size + 1, 1, none⟩ (.int .i64 (v2 : Int))) := by
  refine ⟨h.len, h.t.set 1 _, h.z.set_ne (by show w.heap.size ≠ w.heap.size + 1; omega) _, ?_, h.ob, h.b.setCell (by show w.heap.size ≤ w.heap.size + 1; omega) _⟩
  exact ownsRow_only h.o (S := fun j => j = w.heap.size + 1) (Only.setCell (S := fun j => j = w.heap.size + 1) (Only.refl _ _) (a := ⟨w.heap.size + 1, 1, none⟩) (fun _ => rfl) _) (fun j hj e => by have := h.ob j hj; omega)
theorem TabS.app {w w1 w2 : World} {ver k : Nat} {cs : List CV} {c : CV} {sa sa' : Option Addr} {sc sc' : Nat} (h : TabS w ver cs k sa sc w1)
    (own : w2.ownsRow 0 78 9 (.slice sa' (k + 1) sc') (k + 1) (cCells cs ++ c.cells)) (only : Only (fun j => Value.ownBlock (.slice sa k sc) = some j) w1 w2)
    (fresh : ∀ j, Value.ownBlock (.slice sa' (k + 1) sc') = some j → Value.ownBlock (.slice sa k sc) = some j ∨ w1.heap.size ≤ j) :
    TabS w ver (cs ++ [c]) (k + 1) sa' sc' (w2.setCell ⟨w.heap.size + 1, 2, none⟩ (.slice sa' (k + 1) sc')) := by
  have hlt := h.t.lt
  have hob : ∀ j, Value.ownBlock (.slice sa' (k + 1) sc') = some j → w.heap.size + 2 ≤ j := by
    intro j hj
    rcases fresh j hj with h1 | h1
    · exact h.ob j h1
    · omega
  have ht2 := h.t.only only (fun e => by have := h.ob _ e; omega)
  have hz2 := h.z.only only (fun e => by have := h.ob _ e; omega)
  refine ⟨by rw [List.length_append, h.len]; rfl, ht2.set 2 _, hz2.set_ne (by show w.heap.size ≠ w.heap.size + 1; omega) _, ?_, hob, ?_⟩
  · rw [cc_snoc]
    exact ownsRow_only own (S := fun j => j = w.heap.size + 1) (Only.setCell (S := fun j => j = w.heap.size + 1) (Only.refl _ _) (a := ⟨w.heap.size + 1, 2, none⟩) (fun _ => rfl) _) (fun j hj e => by have := hob j hj; omega)
  · exact (h.b.trans (only.below (B := w.heap.size) h.b.size (fun j _ e => by have := h.ob j e; omega))).setCell (by show w.heap.size ≤ w.heap.size + 1; omega) _
theorem TabS.head {w wr : World} {ver k : Nat} {cs : List CV} {sa : Option Addr} {sc : Nat} (h : TabS w ver cs k sa sc wr) : Below w.heap.size w wr := h.b
theorem infoColB : (Tryz.prog.info? 78).map (fun i => (i.zero, i.size, i.bytes)) = some (some (.agg #[.string ByteArray.empty, .int .u8 0, .bool false, .int .i64 0, .int .u8 0, .bool false, .int .i64 0, .string ByteArray.empty, .bool false]), 9, 72) := by kernel_rfl
def TablePost (w : World) (l : List LC) (e : Ending) (w' : World) : Prop :=
  ∃ sa sc, e = .returned (.agg #[.string tagS, .int .i64 (verAt l (min l.length 8) : Nat), .slice sa (min l.length 8) sc, .slice none 0 0, .int .u64 0, .int .u64 0]) ∧ RowB w 78 9 (min l.length 8) (cCells (colsTo l (min l.length 8))) sa sc w'
set_option maxHeartbeats 16000000 in
set_option maxRecDepth 100000 in
theorem table_any (l : List LC) (hf : ∀ c ∈ l, c.t < 256 ∧ c.d.ty < 256 ∧ c.d.tx.size ≤ 9223372036854775807) (hll : l.length ≤ 9223372036854775807) (a : Option Addr) (cap : Nat) (w : World) (hr : Rd w (.slice a l.length cap) l.length (lCells l)) :
    Calls Tryz.prog 15 #[.slice a l.length cap] w (TablePost w l) := by
  generalize hpost : TablePost w l = post
  replace hpost := Lib.hid hpost
  have h0 : TabS w (verAt l 0) (colsTo l 0) 0 none 0 ((w.alloc (.cells #[.string ⟨#[]⟩, .int .i64 0, .slice none 0 0, .slice none 0 0, .int .u64 0, .int .u64 0] 32)).alloc (.cells #[.string tagS, .int .i64 1, .slice none 0 0, .slice none 0 0, .int .u64 0, .int .u64 0] 32)) := by
    refine ⟨rfl, ?_, (Has.new w _ _).alloc _, World.ownsRow_nil _ _ _ _, (fun j hj => by cases hj), ((Below.refl _ _).alloc (Nat.le_refl _) _).alloc (by simp) _⟩
    have := Has.new (w.alloc (.cells #[.string ⟨#[]⟩, .int .i64 0, .slice none 0 0, .slice none 0 0, .int .u64 0, .int .u64 0] 32)) [.string tagS, .int .i64 1, .slice none 0 0, .slice none 0 0, .int .u64 0, .int .u64 0] 32
    simp only [World.size_alloc] at this
    exact this
  replace h0 := Lib.hid h0
  go_enter Tryz.func15, Tryz.ntmps15
  go_wp2_with fail
  go_loopw [4] (fun i wr => ∃ (k : Nat) (sa : Option Addr) (sc : Nat), k ≤ l.length ∧ k ≤ 8 ∧ i = .int .i64 k ∧ TabS w (verAt l k) (colsTo l k) k sa sc wr) (fun i _ => l.length - (RowKit.intOf i).toNat)
  case atStart => exact ⟨0, none, 0, by omega, by omega, rfl, h0.out⟩
  case round =>
    clear h0
    obtain ⟨k, sa, sc, hk, hk8, rfl, hS⟩ := hrel
    by_cases hlt : k < l.length
    · have hlI : (k : Int) < l.length := by omega
      by_cases h8 : k < 8
      · have h8I : (k : Int) < 8 := by omega
        obtain ⟨bl, ol, cl, ea, fa⟩ := (hr.kept hS.b).lc hlt
        simp only [Value.slice.injEq, true_and] at ea
        obtain ⟨rfl, hcap⟩ := ea
        replace hcap := Lib.hid hcap
        obtain ⟨ht256, hd256, hds⟩ := hf _ (List.mem_of_getElem? (get_lt LC0 hlt))
        have hadv : advB l k = ((l.getD k LC0).nx && decide (0 < k)) := rfl
        have hver : verAt l (k + 1) = if advB l k then verAt l k + 1 else verAt l k := rfl
        have hcol : colAt l k = ⟨nmOf k, 1 + (l.getD k LC0).t % 3, (l.getD k LC0).nl, (verAt l (k + 1) : Nat), dfOf (1 + (l.getD k LC0).t % 3) (l.getD k LC0).nl (l.getD k LC0).d⟩ := rfl
        have hsucc := colsTo_succ l k
        have hvb := verAt_bd l k
        have hc := fun j v hj => fa j v hj
        generalize l.getD k LC0 = c at *
        obtain ⟨t, nl, ⟨dty, dnl, dn, dtx, db⟩, nx⟩ := c
        simp only at ht256 hd256 hds hadv hcol
        have c0 : wr.cell? ⟨bl, ol + k * 8, none⟩ = _ := hc 0 _ rfl
        have c1 := hc 1 _ rfl
        have c2 := hc 2 _ rfl
        have c3 := hc 3 _ rfl
        have c4 := hc 4 _ rfl
        have c5 := hc 5 _ rfl
        have c6 := hc 6 _ rfl
        have c7 := hc 7 _ rfl
        obtain ⟨ver, hvv⟩ : ∃ v, v = verAt l k := ⟨_, rfl⟩
        obtain ⟨ver2, hv2⟩ : ∃ v, v = verAt l (k + 1) := ⟨_, rfl⟩
        obtain ⟨adv, had⟩ : ∃ b, b = advB l k := ⟨_, rfl⟩
        rw [← hvv] at hS hvb hver
        rw [← hv2] at hver hcol
        rw [← had] at hver hadv
        have hS2 : adv = true → TabS w ver2 (colsTo l k) k sa sc (wr.setCell ⟨w.heap.size + 1, 1, none⟩ (.int .i64 ((ver : Int) + 1))) := by
          intro h
          have := hS.setver ver2
          rw [hver, if_pos h] at this
          rw [hver, if_pos h]
          simpa using this
        have hS3 : adv = false → TabS w ver2 (colsTo l k) k sa sc wr := by
          intro h
          rw [hver, if_neg (by rw [h]; simp)]
          exact hS
        have hv9 : ver2 ≤ 10 := by rw [hver]; split <;> omega
        have hkeepc : ∀ (W1 : World), TabS w ver2 (colsTo l k) k sa sc W1 → True := fun _ _ => trivial
        have ht1 := hS.t.cell (o := 1) rfl
        have ht2 := hS.t.free 1
        have hneq : bl ≠ w.heap.size + 1 := by
          intro e
          have hA := c0
          rw [e] at hA
          have hlt2 : w.heap.size + 1 < w.heap.size := by
            obtain ⟨bl2, ol2, cl2, ea2, fa2⟩ := hr.lc hlt
            simp only [Value.slice.injEq, Option.some.injEq, Addr.mk.injEq, true_and, and_true] at ea2
            obtain ⟨⟨rfl, rfl⟩, _⟩ := ea2
            have := World.block_lt_of_cell? _ _ (fa2 0 _ rfl)
            rw [e] at this
            exact this
          omega
        have hcs : ∀ v : Value, ∀ j u, [.int .u8 (t : Int), .bool nl, .int .u8 (dty : Int), .bool dnl, .int .i64 dn, .string dtx, .bool db, .bool nx][j]? = some u → (wr.setCell ⟨w.heap.size + 1, 1, none⟩ v).cell? ⟨bl, ol + k * 8 + j, none⟩ = some u := by
          intro v j u hj
          rw [World.cell?_setCell_other _ _ _ _ (by intro e; simp only [Addr.mk.injEq] at e; exact hneq e.1.symm)]
          exact hc j u hj
        have hCA : ∀ W1 : World, (W1 = wr ∨ W1 = wr.setCell ⟨w.heap.size + 1, 1, none⟩ (.int .i64 ((ver : Int) + 1))) → ∀ j u, [.int .u8 (t : Int), .bool nl, .int .u8 (dty : Int), .bool dnl, .int .i64 dn, .string dtx, .bool db, .bool nx][j]? = some u → W1.cell? ⟨bl, ol + k * 8 + j, none⟩ = some u := by
          rintro W1 (rfl | rfl)
          · exact hc
          · exact hcs _
        replace hvv := Lib.hid hvv
        replace hv2 := Lib.hid hv2
        replace had := Lib.hid had
        replace hver := Lib.hid hver
        replace hadv := Lib.hid hadv
        replace hcol := Lib.hid hcol
        replace hsucc := Lib.hid hsucc
        replace hS2 := Lib.hid hS2
        replace hS3 := Lib.hid hS3
        replace hcs := Lib.hid hcs
        replace hCA := Lib.hid hCA
        clear hkeepc fa hc hr hf
        go_upto_region 5 with fail
        go_cut [25] (fun p wx => p = .bool adv ∧ wr = wx)
        case first =>
          cases nx with
          | false =>
            go_wp2_with fail
            go_meet
            exact ⟨congrArg Value.bool (by rw [hadv.out]; rfl), rfl⟩
          | true =>
            by_cases h0 : 0 < k
            · have i0 : (k : Int) > 0 := by omega
              go_wp2_with fail
              go_meet
              exact ⟨congrArg Value.bool (by rw [hadv.out, decide_eq_true h0]; rfl), rfl⟩
            · have i0 : ¬ (k : Int) > 0 := by omega
              go_wp2_with fail
              go_meet
              exact ⟨congrArg Value.bool (by rw [hadv.out, decide_eq_false h0]; rfl), rfl⟩
        case rest =>
          obtain ⟨rfl, rfl⟩ := hcut
          go_upto_if 25 with fail
          go_cut [26] (fun p wx => TabS w ver2 (colsTo l k) k sa sc wx ∧ (wx = wr ∨ wx = wr.setCell ⟨w.heap.size + 1, 1, none⟩ (.int .i64 ((ver : Int) + 1))))
          case first =>
            clear hCA c0 c1 c2 c3 c4 c5 c6 c7
            cases adv with
            | true =>
              have hh := hS2.out (by trivial)
              replace hh := Lib.hid hh
              clear hS2 hS3 hS
              go_wp2_with fail
              go_meet
              exact ⟨hh.out, .inr rfl⟩
            | false =>
              have hh := hS3.out (by trivial)
              replace hh := Lib.hid hh
              clear hS2 hS3 hS
              go_wp2_with fail
              go_meet
              exact ⟨hh.out, .inl rfl⟩
          case rest =>
            rename World => W1
            obtain ⟨hS1, hW1⟩ := hcut
            have hc1 := hCA.out W1 hW1
            clear hCA hS2 hS3 hS ht1 ht2 c0 c1 c2 c3 c4 c5 c6 c7 hW1
            have c0 : W1.cell? ⟨bl, ol + k * 8, none⟩ = _ := hc1 0 _ rfl
            have c1 := hc1 1 _ rfl
            have c2 := hc1 2 _ rfl
            have c3 := hc1 3 _ rfl
            have c4 := hc1 4 _ rfl
            have c5 := hc1 5 _ rfl
            have c6 := hc1 6 _ rfl
            have c7 := hc1 7 _ rfl
            have t1 := hS1.t.cell (o := 1) rfl
            have c0a := fun o : Obj => cellk ((Below.refl W1.heap.size W1).alloc (Nat.le_refl _) o) c0
            have c0b := fun o o' : Obj => cellk ((Below.refl (W1.alloc o).heap.size (W1.alloc o)).alloc (Nat.le_refl _) o') (c0a o)
            have c1a := fun o : Obj => cellk ((Below.refl W1.heap.size W1).alloc (Nat.le_refl _) o) c1
            have c1b := fun o o' : Obj => cellk ((Below.refl (W1.alloc o).heap.size (W1.alloc o)).alloc (Nat.le_refl _) o') (c1a o)
            have c2a := fun o : Obj => cellk ((Below.refl W1.heap.size W1).alloc (Nat.le_refl _) o) c2
            have c2b := fun o o' : Obj => cellk ((Below.refl (W1.alloc o).heap.size (W1.alloc o)).alloc (Nat.le_refl _) o') (c2a o)
            have c3a := fun o : Obj => cellk ((Below.refl W1.heap.size W1).alloc (Nat.le_refl _) o) c3
            have c3b := fun o o' : Obj => cellk ((Below.refl (W1.alloc o).heap.size (W1.alloc o)).alloc (Nat.le_refl _) o') (c3a o)
            have c4a := fun o : Obj => cellk ((Below.refl W1.heap.size W1).alloc (Nat.le_refl _) o) c4
            have c4b := fun o o' : Obj => cellk ((Below.refl (W1.alloc o).heap.size (W1.alloc o)).alloc (Nat.le_refl _) o') (c4a o)
            have c5a := fun o : Obj => cellk ((Below.refl W1.heap.size W1).alloc (Nat.le_refl _) o) c5
            have c5b := fun o o' : Obj => cellk ((Below.refl (W1.alloc o).heap.size (W1.alloc o)).alloc (Nat.le_refl _) o') (c5a o)
            have c6a := fun o : Obj => cellk ((Below.refl W1.heap.size W1).alloc (Nat.le_refl _) o) c6
            have c6b := fun o o' : Obj => cellk ((Below.refl (W1.alloc o).heap.size (W1.alloc o)).alloc (Nat.le_refl _) o') (c6a o)
            have t1a := fun o : Obj => cellk ((Below.refl W1.heap.size W1).alloc (Nat.le_refl _) o) t1
            have t1b := fun o o' : Obj => cellk ((Below.refl (W1.alloc o).heap.size (W1.alloc o)).alloc (Nat.le_refl _) o') (t1a o)
            have q1 := conv_one k h8 W1.heap.size (W1.alloc (.cells #[.int .u8 (97 + (k : Int))] 5)).drew (by go_simp)
            have q2 := conv_one k h8 (W1.heap.size + 1) ((W1.alloc (.cells #[.string ⟨#[]⟩, .int .u8 0, .bool false, .int .i64 0, .int .u8 0, .bool false, .int .i64 0, .string ⟨#[]⟩, .bool false] 78)).alloc (.cells #[.int .u8 (97 + (k : Int))] 5)).drew (by go_simp)
            have q3 := conv_one k h8 W1.heap.size ((W1.alloc (.cells #[.int .u8 (97 + (k : Int))] 5)).alloc (.cells #[.string ⟨#[]⟩, .int .u8 0, .bool false, .int .i64 0, .int .u8 0, .bool false, .int .i64 0, .string ⟨#[]⟩, .bool false] 78)).drew (by go_simp)
            replace hS1 := Lib.hid hS1
            clear hc1
            go_upto_region 7 with fail
            go_cut [5] (fun p5 wx => ∃ b, p5 = .pointer (some ⟨b, 0, none⟩) ∧ W1.heap.size ≤ b ∧ Has wx b [.string (nmOf k), .int .u8 ((1 + t % 3 : Nat) : Int), .bool nl, .int .i64 (ver2 : Int), .int .u8 (dty : Int), .bool dnl, .int .i64 dn, .string dtx, .bool db] 78 ∧ Below W1.heap.size W1 wx)
            case first =>
              have ec : ((1 + t % 3 : Nat) : Int) = 1 + (t : Int) % 3 := by omega
              replace ec := Lib.hid ec
              go_region
              all_goals (try go_wp2_with fail)
              all_goals go_meet
              all_goals rw [ec.out]
              all_goals first
                | exact ⟨_, rfl, by omega, (by have h := Has.new (W1.alloc (.cells #[.int .u8 (97 + (k : Int))] 5)) [.string (nmOf k), .int .u8 (1 + (t : Int) % 3), .bool nl, .int .i64 (ver2 : Int), .int .u8 (dty : Int), .bool dnl, .int .i64 dn, .string dtx, .bool db] 78; simp only [World.size_alloc] at h; exact h.drew), below_drew (((Below.refl _ _).alloc (Nat.le_refl _) _).alloc (by simp) _)⟩
                | exact ⟨_, rfl, Nat.le_refl _, ((Has.new W1 [.string (nmOf k), .int .u8 (1 + (t : Int) % 3), .bool nl, .int .i64 (ver2 : Int), .int .u8 (dty : Int), .bool dnl, .int .i64 dn, .string dtx, .bool db] 78).alloc _).drew, below_drew (((Below.refl _ _).alloc (Nat.le_refl _) _).alloc (by simp) _)⟩
            case rest =>
              rename World => W2
              obtain ⟨b, rfl, hb1, hN, hBW⟩ := hcut
              have hS2 := hS1.out.below hBW
              have hbz := hN.lt
              have n0 := hN.cell (o := 0) rfl
              have n1 := hN.cell (o := 1) rfl
              have n2 := hN.cell (o := 2) rfl
              have n3 := hN.cell (o := 3) rfl
              have n4 := hN.cell (o := 4) rfl
              have n5 := hN.cell (o := 5) rfl
              have n6 := hN.cell (o := 6) rfl
              have n7 := hN.cell (o := 7) rfl
              have n8 := hN.cell (o := 8) rfl
              obtain ⟨ty, htye⟩ : ∃ ty, 1 + t % 3 = ty := ⟨_, rfl⟩
              rw [htye] at n1 hN
              have hcol2 := hcol.out
              rw [htye] at hcol2
              have ht3 : ty < 256 := by omega
              obtain ⟨ff, hff⟩ : ∃ f, fitsP ty nl ⟨dty, dnl, dn, dtx, db⟩ = f := ⟨_, rfl⟩
              obtain ⟨fb, hfb⟩ : ∃ b : Bool, b = decide (ff ≠ 0) := ⟨_, rfl⟩
              have hfI : ((ff : Int) != 0) = fb := by rw [hfb]; exact bne_nat ff 0
              have hdf : dfOf ty nl ⟨dty, dnl, dn, dtx, db⟩ = if fb then zeroV ty nl else ⟨dty, dnl, dn, dtx, db⟩ := by unfold dfOf; rw [hff, hfb]; by_cases h : ff ≠ 0 <;> simp [h]
              have hval := fun w => value_any dty dnl dn dtx db hd256 w
              have hfits := fun w => rfits_any ty nl 0 ⟨0, false, 0, ByteArray.empty, false⟩ dty dnl dn dtx db hds w
              rw [hff] at hfits
              replace hval := Lib.hid hval
              replace hfits := Lib.hid hfits
              replace hff := Lib.hid hff
              replace hfb := Lib.hid hfb
              replace hdf := Lib.hid hdf
              replace hcol2 := Lib.hid hcol2
              replace htye := Lib.hid htye
              replace hS2 := Lib.hid hS2
              replace hBW := Lib.hid hBW
              clear c0 c1 c2 c3 c4 c5 c6 c7 t1 q1 q2 q3 hcol c0a c0b c1a c1b c2a c2b c3a c3b c4a c4b c5a c5b c6a c6b t1a t1b
              go_upto_region 8 with fail
              go_cut [65] (fun p wx => p = .bool fb ∧ Below W2.heap.size W2 wx)
              case first =>
                refine wp_region_quietC (C := fun w' => Below W2.heap.size W2 w') (by kernel_rfl) (by kernel_rfl) (below_drew (Below.refl _ _)) ?_
                have m1 := fun (wx : World) (hx : Below W2.heap.size W2 wx) => cellk hx n1
                have m2 := fun (wx : World) (hx : Below W2.heap.size W2 wx) => cellk hx n2
                have m4 := fun (wx : World) (hx : Below W2.heap.size W2 wx) => And.intro (cellk hx n4) (And.intro (cellk hx n5) (And.intro (cellk hx n6) (And.intro (cellk hx n7) (cellk hx n8))))
                have cV : ∀ wx, Below W2.heap.size W2 wx → Calls Tryz.prog 25 #[.agg #[.int .u8 (dty : Int), .bool dnl, .int .i64 dn, .string dtx, .bool db]] wx (fun e w'' => e = .returned (.agg #[.int .i64 (dty : Int), .bool dnl, .int .i64 dn, .string dtx, .bool db]) ∧ Below W2.heap.size W2 w'') := fun wx hx => (hval.out wx).mono fun e w'' ⟨he, hb⟩ => ⟨he, hx.trans (hb.mono hx.size)⟩
                have cF : ∀ wx, Below W2.heap.size W2 wx → Calls Tryz.prog 38 #[.agg #[.int .i64 (ty : Int), .bool nl, .int .i64 0, .int .i64 0, .bool false, .int .i64 0, .string ⟨#[]⟩, .bool false], .agg #[.int .i64 (dty : Int), .bool dnl, .int .i64 dn, .string dtx, .bool db]] wx (fun e w'' => e = .returned (.int .i64 (ff : Int)) ∧ Below W2.heap.size W2 w'') := fun wx hx => (hfits.out wx).mono fun e w'' ⟨he, hb⟩ => ⟨he, hx.trans (hb.mono hx.size)⟩
                replace m1 := Lib.hid m1
                replace m2 := Lib.hid m2
                replace m4 := Lib.hid m4
                replace cV := Lib.hid cV
                replace cF := Lib.hid cF
                go_big_quiet_want; go_big_quiet_op; first | go_big_quiet_on | (refine ⟨_, fun _ _ => rfl, ?_⟩; go_big_quiet_on)
                go_big_quiet_want; go_big_quiet_op
                refine ⟨.int .u8 (ty : Int), fun wx hx => by simp [go_sem, m1.out wx hx], ?_⟩
                go_big_quiet_on
                iterate 2 (go_big_quiet_want; go_big_quiet_op; first | go_big_quiet_on | (refine ⟨_, fun _ _ => rfl, ?_⟩; go_big_quiet_on))
                go_big_quiet_want; go_big_quiet_op
                refine ⟨.bool nl, fun wx hx => by simp [go_sem, m2.out wx hx], ?_⟩
                go_big_quiet_on
                iterate 2 (go_big_quiet_want; go_big_quiet_op; first | go_big_quiet_on | (refine ⟨_, fun _ _ => rfl, ?_⟩; go_big_quiet_on))
                go_big_quiet_want; go_big_quiet_op
                refine ⟨.agg #[.int .u8 (dty : Int), .bool dnl, .int .i64 dn, .string dtx, .bool db], fun wx hx => by simp [go_sem, (m4.out wx hx).1, (m4.out wx hx).2.1, (m4.out wx hx).2.2.1, (m4.out wx hx).2.2.2.1, (m4.out wx hx).2.2.2.2], ?_⟩
                go_big_quiet_on
                go_big_quiet_want; go_big_quiet_op
                refine ⟨.agg #[.int .i64 (dty : Int), .bool dnl, .int .i64 dn, .string dtx, .bool db], fun wx hx => cV.out wx hx, ?_⟩
                go_big_quiet_on
                go_big_quiet_want; go_big_quiet_op
                refine ⟨.int .i64 (ff : Int), fun wx hx => cF.out wx hx, ?_⟩
                go_big_quiet_on
                go_big_quiet_want; go_big_quiet_op
                refine ⟨.bool fb, fun wx hx => by simp [go_sem, hfI], ?_⟩
                go_big_quiet_on
                refine wpQuiet_nil ?_
                intro w' hw'
                replace hw' := Lib.hid hw'
                go_wp2_with fail
                go_meet
                exact ⟨rfl, hw'.out⟩
              case rest =>
                rename World => W3
                obtain ⟨rfl, hB3⟩ := hcut
                have hN3 := hN.only (Only.of_below hB3) (Nat.not_le.2 hN.lt)
                have hB13 := hBW.out.trans (hB3.mono hBW.out.size)
                have o1 := hN3.cell (o := 1) rfl
                have o2 := hN3.cell (o := 2) rfl
                have o4 := hN3.cell (o := 4) rfl
                have o5 := hN3.cell (o := 5) rfl
                have o6 := hN3.cell (o := 6) rfl
                have o7 := hN3.cell (o := 7) rfl
                have o8 := hN3.cell (o := 8) rfl
                have f4 := hN3.free 4
                have f5 := hN3.free 5
                have f6 := hN3.free 6
                have f7 := hN3.free 7
                have f8 := hN3.free 8
                clear n0 n1 n2 n3 n4 n5 n6 n7 n8 hval hfits hB3 hBW hS2
                go_upto_if 65 with fail
                go_cut [66] (fun p wx => Below W1.heap.size W1 wx ∧ Has wx b (colAt l k).cells 78)
                case first =>
                  cases fb with
                  | true =>
                    have hfin : (colAt l k).cells = [.string (nmOf k), .int .u8 (ty : Int), .bool nl, .int .i64 (ver2 : Int), .int .u8 (ty : Int), .bool nl, .int .i64 0, .string ⟨#[]⟩, .bool false] := by
                      rw [hcol2.out, hdf.out]; rfl
                    replace hfin := Lib.hid hfin
                    replace hN3 := Lib.hid hN3
                    replace hB13 := Lib.hid hB13
                    clear hN
                    go_wp2_with fail
                    go_meet
                    exact ⟨((((hB13.out.setCell (p := ⟨b, 4, none⟩) hb1 _).setCell (p := ⟨b, 5, none⟩) hb1 _).setCell (p := ⟨b, 6, none⟩) hb1 _).setCell (p := ⟨b, 7, none⟩) hb1 _).setCell (p := ⟨b, 8, none⟩) hb1 _, by rw [hfin.out]; exact ((((hN3.out.set 4 _).set 5 _).set 6 _).set 7 _).set 8 _⟩
                  | false =>
                    have hfin : (colAt l k).cells = [.string (nmOf k), .int .u8 (ty : Int), .bool nl, .int .i64 (ver2 : Int), .int .u8 (dty : Int), .bool dnl, .int .i64 dn, .string dtx, .bool db] := by
                      rw [hcol2.out, hdf.out]; rfl
                    replace hfin := Lib.hid hfin
                    replace hN3 := Lib.hid hN3
                    replace hB13 := Lib.hid hB13
                    clear hN
                    go_wp2_with fail
                    go_meet
                    exact ⟨hB13.out, by rw [hfin.out]; exact hN3.out⟩
                case rest =>
                  rename World => W4
                  obtain ⟨hB4, hN4⟩ := hcut
                  have hS4 := hS1.out.below hB4
                  obtain ⟨C, hC⟩ : ∃ C, C = colAt l k := ⟨_, rfl⟩
                  rw [← hC] at hN4 hsucc
                  obtain ⟨qn, qt, ql, qs, ⟨dt, dl, dm, dx, dq⟩⟩ := C
                  have p0 := hN4.cell (o := 0) rfl
                  have p1 := hN4.cell (o := 1) rfl
                  have p2 := hN4.cell (o := 2) rfl
                  have p3 := hN4.cell (o := 3) rfl
                  have p4 := hN4.cell (o := 4) rfl
                  have p5 := hN4.cell (o := 5) rfl
                  have p6 := hN4.cell (o := 6) rfl
                  have p7 := hN4.cell (o := 7) rfl
                  have p8 := hN4.cell (o := 8) rfl
                  have t2 := hS4.t.cell (o := 2) rfl
                  have hS5 := hS4.below ((Below.refl W4.heap.size W4).alloc (Nat.le_refl _) (.cells #[.string qn, .int .u8 (qt : Int), .bool ql, .int .i64 qs, .int .u8 (dt : Int), .bool dl, .int .i64 dm, .string dx, .bool dq] 78))
                  have hN5 := Has.new W4 [.string qn, .int .u8 (qt : Int), .bool ql, .int .i64 qs, .int .u8 (dt : Int), .bool dl, .int .i64 dm, .string dx, .bool dq] 78
                  have hby : (k + 1) * 72 ≤ 140737488355328 := by omega
                  have ho5 := hS5.o
                  have hwl := hS4.t.lt
                  have hobl : ∀ j, Value.ownBlock (.slice sa k sc) = some j → w.heap.size + 2 ≤ j := hS4.ob
                  have hT5 := hS5.t
                  have ft2 : ∀ w2, Only (fun j => Value.ownBlock (.slice sa k sc) = some j) (W4.alloc (.cells #[.string qn, .int .u8 (qt : Int), .bool ql, .int .i64 qs, .int .u8 (dt : Int), .bool dl, .int .i64 dm, .string dx, .bool dq] 78)) w2 → w2.frozen? ⟨w.heap.size + 1, 2, none⟩ = false ∧ w2.cell? ⟨w.heap.size + 1, 2, none⟩ = some (.slice sa k sc) := by
                    intro w2 ho
                    have := hT5.only ho (fun e => by have := hobl _ e; omega)
                    exact ⟨this.free 2, this.cell (o := 2) rfl⟩
                  replace hC := Lib.hid hC
                  replace hS5 := Lib.hid hS5
                  replace ft2 := Lib.hid ft2
                  clear hS4 hB4 hN4 hN hN3 hB13 f4 f5 f6 f7 f8 o1 o2 o4 o5 o6 o7 o8 hS1 hT5 hobl
                  go_wp2_with (at_builtin; refine wpList_app rfl (.tmp 73) (.tmp 75) 27 rfl 78 (.agg #[.string ByteArray.empty, .int .u8 0, .bool false, .int .i64 0, .int .u8 0, .bool false, .int .i64 0, .string ByteArray.empty, .bool false]) 9 72 Tryz.underlying27 infoColB rfl (by decide) (by decide) sa k sc (cCells (colsTo l k)) (by exact ho5) rfl _ 1 1 [.string qn, .int .u8 (qt : Int), .bool ql, .int .i64 qs, .int .u8 (dt : Int), .bool dl, .int .i64 dm, .string dx, .bool dq] rfl rfl (by exact news_at hN5) (by simp [Value.oneCell']) (by exact hby) ?_)
                  intro sa' sc' w2 own2 only2 fresh2
                  obtain ⟨g1, g2⟩ := ft2.out w2 only2
                  have hS6 := TabS.app (c := ⟨qn, qt, ql, qs, ⟨dt, dl, dm, dx, dq⟩⟩) hS5.out own2 only2 (by simpa using fresh2)
                  rw [← hsucc.out, hv2.out] at hS6
                  replace hS6 := Lib.hid hS6
                  clear hS5 own2 only2 fresh2 hN5 ho5 ft2
                  go_wp2_with fail
                  go_roundw
                  case rel => first | exact ⟨k + 1, sa', sc', by omega, by omega, by go_num, hS6.out⟩ | ((repeat apply Exists.intro); exact ⟨⟨k + 1, sa', sc', by omega, by omega, by go_num, hS6.out⟩, rfl⟩)
                  case measure => simp [RowKit.intOf]; omega
      · have hkm : k = min l.length 8 := by omega
        have h8I : ¬ (k : Int) < 8 := by omega
        have hfin : ∀ wx, Below w.heap.size w wx → wx.ownsRow 0 78 9 (.slice sa k sc) k (cCells (colsTo l k)) → post (.returned (.agg #[.string tagS, .int .i64 (verAt l k : Nat), .slice sa k sc, .slice none 0 0, .int .u64 0, .int .u64 0])) wx := by
          intro wx h1 h2
          rw [← hpost.out, hkm]
          rw [hkm] at h2
          exact ⟨sa, sc, rfl, h2, (fun j hj => by have := hS.ob j (by rw [hkm]; exact hj); omega), h1⟩
        have t0 := hS.t.cell (o := 0) rfl
        have t1 := hS.t.cell (o := 1) rfl
        have t2 := hS.t.cell (o := 2) rfl
        have t3 := hS.t.cell (o := 3) rfl
        have t4 := hS.t.cell (o := 4) rfl
        have t5 := hS.t.cell (o := 5) rfl
        have z0 := hS.z.free 0
        have z1 := hS.z.free 1
        have z2 := hS.z.free 2
        have z3 := hS.z.free 3
        have z4 := hS.z.free 4
        have z5 := hS.z.free 5
        have zc0 := hS.z.cell (o := 0) rfl
        have zc1 := hS.z.cell (o := 1) rfl
        have zc2 := hS.z.cell (o := 2) rfl
        have zc3 := hS.z.cell (o := 3) rfl
        have zc4 := hS.z.cell (o := 4) rfl
        have zc5 := hS.z.cell (o := 5) rfl
        have hZ6 := (((((hS.z.set 0 (.string tagS)).set 1 (.int .i64 (verAt l k : Nat))).set 2 (.slice sa k sc)).set 3 (.slice none 0 0)).set 4 (.int .u64 0)).set 5 (.int .u64 0)
        have y0 := hZ6.cell (o := 0) rfl
        have y1 := hZ6.cell (o := 1) rfl
        have y2 := hZ6.cell (o := 2) rfl
        have y3 := hZ6.cell (o := 3) rfl
        have y4 := hZ6.cell (o := 4) rfl
        have y5 := hZ6.cell (o := 5) rfl
        have hB6 := (((((hS.b.setCell (p := ⟨w.heap.size, 0, none⟩) (Nat.le_refl _) (.string tagS)).setCell (p := ⟨w.heap.size, 1, none⟩) (Nat.le_refl _) (.int .i64 (verAt l k : Nat))).setCell (p := ⟨w.heap.size, 2, none⟩) (Nat.le_refl _) (.slice sa k sc)).setCell (p := ⟨w.heap.size, 3, none⟩) (Nat.le_refl _) (.slice none 0 0)).setCell (p := ⟨w.heap.size, 4, none⟩) (Nat.le_refl _) (.int .u64 0)).setCell (p := ⟨w.heap.size, 5, none⟩) (Nat.le_refl _) (.int .u64 0)
        have hoS : ∀ wx, Only (fun j => j = w.heap.size) wr wx → wx.ownsRow 0 78 9 (.slice sa k sc) k (cCells (colsTo l k)) := fun wx ho => ownsRow_only hS.o ho (fun j hj e => by have := hS.ob j hj; omega)
        have hO6 : Only (fun j => j = w.heap.size) wr _ := ((((((Only.refl (fun j => j = w.heap.size) wr).setCell (a := ⟨w.heap.size, 0, none⟩) (fun _ => rfl) (.string tagS)).setCell (a := ⟨w.heap.size, 1, none⟩) (fun _ => rfl) (.int .i64 (verAt l k : Nat))).setCell (a := ⟨w.heap.size, 2, none⟩) (fun _ => rfl) (.slice sa k sc)).setCell (a := ⟨w.heap.size, 3, none⟩) (fun _ => rfl) (.slice none 0 0)).setCell (a := ⟨w.heap.size, 4, none⟩) (fun _ => rfl) (.int .u64 0)).setCell (a := ⟨w.heap.size, 5, none⟩) (fun _ => rfl) (.int .u64 0)
        have hF := hfin _ hB6 (hoS _ hO6)
        generalize verAt l k = vv at *
        replace hF := Lib.hid hF
        replace hkm := Lib.hid hkm
        clear hfin hS hB6 hoS hO6 hr hf hZ6
        go_wp2_with fail
        refine bodyPost_ret (v := .agg #[.string tagS, .int .i64 (vv : Int), .slice sa k sc, .slice none 0 0, .int .u64 0, .int .u64 0]) (by simp [results, Tryz.results15, go_sem, y0, y1, y2, y3, y4, y5]) rfl ?_
        exact hF.out
    · have hkm : k = min l.length 8 := by omega
      have hlI : ¬ (k : Int) < l.length := by omega
      have hfin : ∀ wx, Below w.heap.size w wx → wx.ownsRow 0 78 9 (.slice sa k sc) k (cCells (colsTo l k)) → post (.returned (.agg #[.string tagS, .int .i64 (verAt l k : Nat), .slice sa k sc, .slice none 0 0, .int .u64 0, .int .u64 0])) wx := by
        intro wx h1 h2
        rw [← hpost.out, hkm]
        rw [hkm] at h2
        exact ⟨sa, sc, rfl, h2, (fun j hj => by have := hS.ob j (by rw [hkm]; exact hj); omega), h1⟩
      have t0 := hS.t.cell (o := 0) rfl
      have t1 := hS.t.cell (o := 1) rfl
      have t2 := hS.t.cell (o := 2) rfl
      have t3 := hS.t.cell (o := 3) rfl
      have t4 := hS.t.cell (o := 4) rfl
      have t5 := hS.t.cell (o := 5) rfl
      have z0 := hS.z.free 0
      have z1 := hS.z.free 1
      have z2 := hS.z.free 2
      have z3 := hS.z.free 3
      have z4 := hS.z.free 4
      have z5 := hS.z.free 5
      have zc0 := hS.z.cell (o := 0) rfl
      have zc1 := hS.z.cell (o := 1) rfl
      have zc2 := hS.z.cell (o := 2) rfl
      have zc3 := hS.z.cell (o := 3) rfl
      have zc4 := hS.z.cell (o := 4) rfl
      have zc5 := hS.z.cell (o := 5) rfl
      have hZ6 := (((((hS.z.set 0 (.string tagS)).set 1 (.int .i64 (verAt l k : Nat))).set 2 (.slice sa k sc)).set 3 (.slice none 0 0)).set 4 (.int .u64 0)).set 5 (.int .u64 0)
      have y0 := hZ6.cell (o := 0) rfl
      have y1 := hZ6.cell (o := 1) rfl
      have y2 := hZ6.cell (o := 2) rfl
      have y3 := hZ6.cell (o := 3) rfl
      have y4 := hZ6.cell (o := 4) rfl
      have y5 := hZ6.cell (o := 5) rfl
      have hB6 := (((((hS.b.setCell (p := ⟨w.heap.size, 0, none⟩) (Nat.le_refl _) (.string tagS)).setCell (p := ⟨w.heap.size, 1, none⟩) (Nat.le_refl _) (.int .i64 (verAt l k : Nat))).setCell (p := ⟨w.heap.size, 2, none⟩) (Nat.le_refl _) (.slice sa k sc)).setCell (p := ⟨w.heap.size, 3, none⟩) (Nat.le_refl _) (.slice none 0 0)).setCell (p := ⟨w.heap.size, 4, none⟩) (Nat.le_refl _) (.int .u64 0)).setCell (p := ⟨w.heap.size, 5, none⟩) (Nat.le_refl _) (.int .u64 0)
      have hoS : ∀ wx, Only (fun j => j = w.heap.size) wr wx → wx.ownsRow 0 78 9 (.slice sa k sc) k (cCells (colsTo l k)) := fun wx ho => ownsRow_only hS.o ho (fun j hj e => by have := hS.ob j hj; omega)
      have hO6 : Only (fun j => j = w.heap.size) wr _ := ((((((Only.refl (fun j => j = w.heap.size) wr).setCell (a := ⟨w.heap.size, 0, none⟩) (fun _ => rfl) (.string tagS)).setCell (a := ⟨w.heap.size, 1, none⟩) (fun _ => rfl) (.int .i64 (verAt l k : Nat))).setCell (a := ⟨w.heap.size, 2, none⟩) (fun _ => rfl) (.slice sa k sc)).setCell (a := ⟨w.heap.size, 3, none⟩) (fun _ => rfl) (.slice none 0 0)).setCell (a := ⟨w.heap.size, 4, none⟩) (fun _ => rfl) (.int .u64 0)).setCell (a := ⟨w.heap.size, 5, none⟩) (fun _ => rfl) (.int .u64 0)
      have hF := hfin _ hB6 (hoS _ hO6)
      generalize verAt l k = vv at *
      replace hF := Lib.hid hF
      replace hkm := Lib.hid hkm
      clear hfin hS hB6 hoS hO6 hr hf hZ6
      go_wp2_with fail
      refine bodyPost_ret (v := .agg #[.string tagS, .int .i64 (vv : Int), .slice sa k sc, .slice none 0 0, .int .u64 0, .int .u64 0]) (by simp [results, Tryz.results15, go_sem, y0, y1, y2, y3, y4, y5]) rfl ?_
      exact hF.out
end Go.Proofs.YtpjbcadelmjmfaaGreatDoor
