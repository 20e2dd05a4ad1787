/- Walks: the reference's Fits; letters and names. Walks: Find. -/
import Derived.Test.YtgnoikfmhncbmaaGreatDoorR6
import Derived.Test.YtgnoikfmhncbmaaGreatDoorNum
set_option linter.unusedVariables false
set_option linter.unusedSimpArgs false
namespace Go.Proofs.YtgnoikfmhncbmaaGreatDoor
open Go.RowKit Go.Lib

/-! ### names of one letter -/
def LetterN (c : Nat) : Prop := (65 ≤ c ∧ c ≤ 90) ∨ (97 ≤ c ∧ c ≤ 122)
theorem letter_yes (c : Nat) (h : LetterN c) (w : World) : Calls Tryz.prog 113 #[.int .u8 (c : Int)] w fun e w' => e = .returned (.bool true) ∧ w = w' := by
  rcases h with ⟨h1, h2⟩ | ⟨h1, h2⟩
  · have i1 : (c : Int) ≥ 65 := by omega
    have i2 : (c : Int) ≤ 90 := by omega
    go_enter Tryz.func113, Tryz.ntmps113
    go_wp2_with fail
    go_ret
    exact ⟨rfl, rfl⟩
  · have i1 : (c : Int) ≥ 65 := by omega
    have i2 : ¬ (c : Int) ≤ 90 := by omega
    have i3 : (c : Int) ≥ 97 := by omega
    have i4 : (c : Int) ≤ 122 := by omega
    go_enter Tryz.func113, Tryz.ntmps113
    go_wp2_with fail
    go_ret
    exact ⟨rfl, rfl⟩
theorem letter_no (w : World) : Calls Tryz.prog 113 #[.int .u8 57] w fun e w' => e = .returned (.bool false) ∧ w = w' := by
  go_enter Tryz.func113, Tryz.ntmps113
  go_wp2_with fail
  go_ret
  exact ⟨rfl, rfl⟩
/-- A string of one letter. -/
def One (s : ByteArray) (c : Nat) : Prop := LetterN c ∧ ∃ b : UInt8, b.toNat = c ∧ s = ⟨#[b]⟩
theorem One.facts {s : ByteArray} {c : Nat} (h : One s c) : s.size = 1 ∧ (∀ h : 0 < s.size, (s[0]'h).toNat = c) ∧ ∃ b, s.toList = [b] := by
  obtain ⟨_, b, hb, rfl⟩ := h
  exact ⟨rfl, fun _ => hb, b, by rw [ByteArray.toList_eq]⟩
set_option maxHeartbeats 1000000 in
theorem name_one (s : ByteArray) (c : Nat) (h : One s c) (w : World) : Calls Tryz.prog 104 #[.string s] w fun e w' => e = .returned (.bool true) ∧ w = w' := by
  obtain ⟨hz, hc, b, hb⟩ := h.facts
  have hl := fun w => letter_yes c h.1 w
  replace hl := Lib.hid hl
  go_enter Tryz.func104, Tryz.ntmps104
  go_wp2_with (go_at_call 113; refine (hl.out _).mono ?_; rintro e w1 ⟨rfl, rfl⟩)
  go_loop [19] (fun i => ∃ k : Nat, k ≤ 1 ∧ i = .int .i64 k) (fun i => 1 - (intOf i).toNat)
  case atStart => exact ⟨0, by omega, rfl⟩
  case round =>
    obtain ⟨k, hk, rfl⟩ := hrel
    by_cases h0 : k < 1
    · obtain rfl : k = 0 := by omega
      go_wp2_with (go_at_call 113; refine (hl.out _).mono ?_; rintro e w1 ⟨rfl, rfl⟩)
      go_round
      case rel => exact ⟨1, by omega, by go_num⟩
      case measure => simp [intOf]
    · obtain rfl : k = 1 := by omega
      go_wp2_with fail
      go_ret
      exact ⟨rfl, rfl⟩
theorem name_nine (w : World) : Calls Tryz.prog 104 #[.string ⟨#[57]⟩] w fun e w' => e = .returned (.bool false) ∧ w = w' := by
  have hl := letter_no w
  replace hl := Lib.hid hl
  obtain ⟨s, hs⟩ : ∃ s : ByteArray, s = ⟨#[57]⟩ := ⟨_, rfl⟩
  have hz : s.size = 1 := by rw [hs]; rfl
  have hc : ∀ h : 0 < s.size, (s[0]'h).toNat = 57 := by rw [hs]; intro _; rfl
  have hb : s.toList = [57] := by rw [hs, ByteArray.toList_eq]
  rw [← hs]
  replace hs := Lib.hid hs
  go_enter Tryz.func104, Tryz.ntmps104
  go_wp2_with (go_at_call 113; refine hl.out.mono ?_; rintro e w1 ⟨rfl, rfl⟩)
  go_ret
  exact ⟨rfl, rfl⟩
set_option maxHeartbeats 2000000 in
theorem reserved_one (s : ByteArray) (b : UInt8) (hb : s.toList = [b]) (w : World) : Calls Tryz.prog 105 #[.string s] w fun e w' => e = .returned (.bool false) ∧ w = w' := by
  go_enter Tryz.func105, Tryz.ntmps105
  go_wp2_with fail
  go_ret
  exact ⟨rfl, rfl⟩
theorem named_one (s : ByteArray) (c : Nat) (h : One s c) (w : World) : Calls Tryz.prog 90 #[.string s] w fun e w' => e = .returned (.bool true) ∧ w = w' := by
  obtain ⟨_, _, b, hb⟩ := h.facts
  have h1 := name_one s c h w
  have h2 := reserved_one s b hb w
  replace h1 := Lib.hid h1
  replace h2 := Lib.hid h2
  replace hb := Lib.hid hb
  go_enter Tryz.func90, Tryz.ntmps90
  go_wp2_with (first | (go_at_call 104; refine h1.out.mono ?_; rintro e w1 ⟨rfl, rfl⟩) | (go_at_call 105; refine h2.out.mono ?_; rintro e w1 ⟨rfl, rfl⟩))
  go_ret
  exact ⟨rfl, rfl⟩
theorem named_nine (w : World) : Calls Tryz.prog 90 #[.string ⟨#[57]⟩] w fun e w' => e = .returned (.bool false) ∧ w = w' := by
  have h1 := name_nine w
  replace h1 := Lib.hid h1
  go_enter Tryz.func90, Tryz.ntmps90
  go_wp2_with (go_at_call 104; refine h1.out.mono ?_; rintro e w1 ⟨rfl, rfl⟩)
  go_ret
  exact ⟨rfl, rfl⟩
end Go.Proofs.YtgnoikfmhncbmaaGreatDoor

namespace Go.Proofs.YtgnoikfmhncbmaaGreatDoor
open Go.RowKit Go.Lib

def CV0 : CV := ⟨ByteArray.empty, 0, false, 0, RV0⟩
def CV.cells (c : CV) : List Value := [.string c.nm, .int .u8 (c.ty : Int), .bool c.nl, .int .i64 c.sc, .int .u8 (c.df.ty : Int), .bool c.df.nl, .int .i64 c.df.n, .string c.df.tx, .bool c.df.b]
def CV.rcells (c : CV) : List Value := [.int .i64 (c.ty : Int), .bool c.nl, .int .i64 c.sc, .int .i64 (c.df.ty : Int), .bool c.df.nl, .int .i64 c.df.n, .string c.df.tx, .bool c.df.b]
def cCells (l : List CV) : List Value := l.flatMap CV.cells
def rcCells (l : List CV) : List Value := l.flatMap CV.rcells
theorem cc_get {l : List CV} {k : Nat} (h : k < l.length) (j : Nat) (v : Value) (hj : (l.getD k CV0).cells[j]? = some v) : (cCells l)[k * 9 + j]? = some v := flat_get (f := CV.cells) (n := 9) (fun _ => rfl) l k _ (get_lt CV0 h) j v hj
theorem rcc_get {l : List CV} {k : Nat} (h : k < l.length) (j : Nat) (v : Value) (hj : (l.getD k CV0).rcells[j]? = some v) : (rcCells l)[k * 8 + j]? = some v := flat_get (f := CV.rcells) (n := 8) (fun _ => rfl) l k _ (get_lt CV0 h) j v hj
theorem cc_len (l : List CV) : (cCells l).length = l.length * 9 := flat_len (f := CV.cells) (fun _ => rfl) l
theorem rcc_len (l : List CV) : (rcCells l).length = l.length * 8 := flat_len (f := CV.rcells) (fun _ => rfl) l
theorem cc_snoc (l : List CV) (c : CV) : cCells (l ++ [c]) = cCells l ++ c.cells := by simp [cCells]
theorem rcc_snoc (l : List CV) (c : CV) : rcCells (l ++ [c]) = rcCells l ++ c.rcells := by simp [rcCells]

/-- The cells of element number k of a slice of columns. -/
theorem Rd.col {w : World} {a : Option Addr} {cap : Nat} {cs : List CV} (hr : Rd w (.slice a cs.length cap) cs.length (cCells cs)) {k : Nat} (hk : k < cs.length) :
    ∃ bl ol cl, Value.slice a cs.length cap = .slice (some ⟨bl, ol, none⟩) cs.length cl ∧ ∀ j v, (cs.getD k CV0).cells[j]? = some v → w.cell? ⟨bl, ol + k * 9 + j, none⟩ = some v := by
  obtain ⟨bl, ol, cl, ea, fa⟩ := hr.cells (by omega)
  exact ⟨bl, ol, cl, ea, fun j v hj => by rw [Nat.add_assoc]; exact fa _ _ (cc_get hk j v hj)⟩
theorem Rd.val {w : World} {a : Option Addr} {cap : Nat} {l : List RV} (hr : Rd w (.slice a l.length cap) l.length (vCells l)) {k : Nat} (hk : k < l.length) :
    ∃ bl ol cl, Value.slice a l.length cap = .slice (some ⟨bl, ol, none⟩) l.length cl ∧ ∀ j v, (l.getD k RV0).cells[j]? = some v → w.cell? ⟨bl, ol + k * 5 + j, none⟩ = some v := by
  obtain ⟨bl, ol, cl, ea, fa⟩ := hr.cells (by omega)
  exact ⟨bl, ol, cl, ea, fun j v hj => by rw [Nat.add_assoc]; exact fa _ _ (vc_get hk j v hj)⟩
theorem Rd.rval {w : World} {a : Option Addr} {cap : Nat} {l : List RV} (hr : Rd w (.slice a l.length cap) l.length (rvCells l)) {k : Nat} (hk : k < l.length) :
    ∃ bl ol cl, Value.slice a l.length cap = .slice (some ⟨bl, ol, none⟩) l.length cl ∧ ∀ j v, (l.getD k RV0).rcells[j]? = some v → w.cell? ⟨bl, ol + k * 5 + j, none⟩ = some v := by
  obtain ⟨bl, ol, cl, ea, fa⟩ := hr.cells (by omega)
  exact ⟨bl, ol, cl, ea, fun j v hj => by rw [Nat.add_assoc]; exact fa _ _ (rvc_get hk j v hj)⟩
theorem Rd.rcol {w : World} {a : Option Addr} {cap : Nat} {l : List CV} (hr : Rd w (.slice a l.length cap) l.length (rcCells l)) {k : Nat} (hk : k < l.length) :
    ∃ bl ol cl, Value.slice a l.length cap = .slice (some ⟨bl, ol, none⟩) l.length cl ∧ ∀ j v, (l.getD k CV0).rcells[j]? = some v → w.cell? ⟨bl, ol + k * 8 + j, none⟩ = some v := by
  obtain ⟨bl, ol, cl, ea, fa⟩ := hr.cells (by omega)
  exact ⟨bl, ol, cl, ea, fun j v hj => by rw [Nat.add_assoc]; exact fa _ _ (rcc_get hk j v hj)⟩

theorem find1_any (nm : ByteArray) (ty : Nat) (nl : Bool) (sc : Int) (dty : Nat) (dnl : Bool) (dn : Int) (dtx : ByteArray) (db : Bool) (s : ByteArray) (p : Nat) (w : World) (hp : w.cell? ⟨p, 0, none⟩ = some (.string s)) :
    Calls Tryz.prog 50 #[.agg #[.string nm, .int .u8 (ty : Int), .bool nl, .int .i64 sc, .int .u8 (dty : Int), .bool dnl, .int .i64 dn, .string dtx, .bool db], .pointer (some ⟨p, 0, none⟩)] w (RPost w (.bool (nm.toList == s.toList))) := by
  have hN := Has.new w [.string nm, .int .u8 (ty : Int), .bool nl, .int .i64 sc, .int .u8 (dty : Int), .bool dnl, .int .i64 dn, .string dtx, .bool db] 108
  have n0 := hN.cell (o := 0) rfl
  have hlt : p < w.heap.size := by simpa using World.block_lt_of_cell? _ _ hp
  have hp2 : (w.alloc (.cells #[.string nm, .int .u8 (ty : Int), .bool nl, .int .i64 sc, .int .u8 (dty : Int), .bool dnl, .int .i64 dn, .string dtx, .bool db] 108)).cell? ⟨p, 0, none⟩ = some (.string s) := cellk ((Below.refl _ _).alloc (Nat.le_refl _) _) hp
  have hB : Below w.heap.size w (w.alloc (.cells #[.string nm, .int .u8 (ty : Int), .bool nl, .int .i64 sc, .int .u8 (dty : Int), .bool dnl, .int .i64 dn, .string dtx, .bool db] 108)) := (Below.refl _ _).alloc (Nat.le_refl _) _
  replace hB := Lib.hid hB
  generalize hx : (nm.toList == s.toList) = x
  clear hN
  go_enter Tryz.func50, Tryz.ntmps50
  go_wp2_with fail
  go_ret
  exact ⟨rfl, hB.out⟩

/-- What Find gives. -/
def FindIs (cs : List CV) (s : ByteArray) (r : Int) : Prop :=
  (r = -1 ∧ ∀ j, j < cs.length → ((cs.getD j CV0).nm.toList == s.toList) = false) ∨
  ∃ k : Nat, k < cs.length ∧ r = k ∧ ((cs.getD k CV0).nm.toList == s.toList) = true ∧ ∀ j, j < k → ((cs.getD j CV0).nm.toList == s.toList) = false

set_option maxHeartbeats 1000000 in
theorem idx_any (cs : List CV) (a : Option Addr) (cap : Nat) (s : ByteArray) (r : Int) (hF : FindIs cs s r) (p : Nat) (w : World) (hr : Rd w (.slice a cs.length cap) cs.length (cCells cs)) (hll : cs.length ≤ 100000) (hp : w.cell? ⟨p, 0, none⟩ = some (.string s)) :
    Calls Tryz.prog 49 #[.slice a cs.length cap, .func (.func 50) #[] #[.pointer (some ⟨p, 0, none⟩)]] w (RPost w (.int .i64 r)) := by
  generalize hpost : RPost w (.int .i64 r) = post
  replace hpost := Lib.hid hpost
  go_enter Tryz.func49, Tryz.ntmps49
  go_wp2_with fail
  go_loopw [8] (fun i wr => ∃ k : Nat, k ≤ cs.length ∧ i = .int .i64 k ∧ (∀ j, j < k → ((cs.getD j CV0).nm.toList == s.toList) = false) ∧ Below w.heap.size w wr) (fun i _ => cs.length - (intOf i).toNat)
  case atStart => exact ⟨0, by omega, rfl, fun j hj => by omega, Below.refl _ _⟩
  case round =>
    obtain ⟨k, hk, rfl, hb, hB⟩ := hrel
    by_cases hlt : k < cs.length
    · have hlI : (k : Int) < cs.length := by omega
      obtain ⟨bl, ol, cl, ea, fa⟩ := (hr.kept hB).col hlt
      simp only [Value.slice.injEq, true_and] at ea
      obtain ⟨rfl, hcap⟩ := ea
      replace hcap := Lib.hid hcap
      have hp1 := cellk hB hp
      obtain ⟨x, hx⟩ : ∃ x, ((cs.getD k CV0).nm.toList == s.toList) = x := ⟨_, rfl⟩
      have hno : x = false → ∀ j, j < k + 1 → ((cs.getD j CV0).nm.toList == s.toList) = false := by
        intro h j hj
        by_cases e : j = k
        · subst e; rw [hx, h]
        · exact hb j (by omega)
      have hyes : x = true → r = k := by
        intro h
        rcases hF with ⟨_, hn⟩ | ⟨k2, h1, h2, h3, h4⟩
        · have := hn k hlt; rw [hx, h] at this; cases this
        · obtain he | he | he : k2 < k ∨ k2 = k ∨ k < k2 := by omega
          · have := hb k2 he; rw [h3] at this; cases this
          · rw [h2, he]
          · have := h4 k he; rw [hx, h] at this; cases this
      have hc := fun j v hj => fa j v hj
      generalize cs.getD k CV0 = c at *
      obtain ⟨nm, ty, nl, sc, ⟨dty, dnl, dn, dtx, db⟩⟩ := c
      have c0 : wr.cell? ⟨bl, ol + k * 9, none⟩ = _ := hc 0 _ rfl
      have c1 := hc 1 _ rfl
      have c2 := hc 2 _ rfl
      have c3 := hc 3 _ rfl
      have c4 := hc 4 _ rfl
      have c5 := hc 5 _ rfl
      have c6 := hc 6 _ rfl
      have c7 := hc 7 _ rfl
      have c8 := hc 8 _ rfl
      have hcl := fun w hp => find1_any nm ty nl sc dty dnl dn dtx db s p w hp
      simp only at hx
      rw [hx] at hcl
      have hcl2 := hcl wr hp1
      replace hcl2 := Lib.hid hcl2
      replace hno := Lib.hid hno
      replace hyes := Lib.hid hyes
      replace hx := Lib.hid hx
      replace hB := Lib.hid hB
      clear hcl hb hc fa hp1
      cases x with
      | true =>
        go_wp2_with fail
        refine hcl2.out.mono ?_
        rintro e w1 ⟨rfl, hB1⟩
        have hfin : post (.returned (.int .i64 (k : Int))) w1 := by
          rw [← hpost.out, hyes.out (by trivial)]
          exact ⟨rfl, hB.out.trans (hB1.mono hB.out.size)⟩
        replace hfin := Lib.hid hfin
        go_wp2_with fail
        first | exact hfin.out | (go_ret; exact hfin.out)
      | false =>
        go_wp2_with fail
        refine hcl2.out.mono ?_
        rintro e w1 ⟨rfl, hB1⟩
        have hB2 := hB.out.trans (hB1.mono hB.out.size)
        replace hB2 := Lib.hid hB2
        clear hB1
        go_wp2_with fail
        go_roundw
        case rel => exact ⟨k + 1, by omega, by go_num, hno.out (by trivial), hB2.out⟩
        case measure => simp [intOf]; omega
    · have hkI : ¬ (k : Int) < cs.length := by omega
      have hfin : post (.returned (.int .i64 (-1))) wr := by
        rw [← hpost.out]
        refine ⟨?_, hB⟩
        rcases hF with ⟨h1, _⟩ | ⟨k2, h1, h2, h3, h4⟩
        · rw [h1]
        · have := hb k2 (by omega); rw [h3] at this; cases this
      replace hfin := Lib.hid hfin
      clear hb hr hF
      go_wp2_with fail
      first | exact hfin.out | (go_ret; exact hfin.out)
theorem find_any (tn : ByteArray) (ver : Int) (cs : List CV) (ca : Option Addr) (cc : Nat) (s : ByteArray) (r : Int) (hF : FindIs cs s r) (w : World) (hr : Rd w (.slice ca cs.length cc) cs.length (cCells cs)) (hll : cs.length ≤ 100000) :
    Calls Tryz.prog 26 #[.agg #[.string tn, .int .i64 ver, .slice ca cs.length cc, .slice none 0 0, .int .u64 0, .int .u64 0], .string s] w (RPost w (.int .i64 r)) := by
  generalize hpost : RPost w (.int .i64 r) = post
  replace hpost := Lib.hid hpost
  obtain ⟨n, hn⟩ : ∃ n, n = cs.length := ⟨_, rfl⟩
  have hB : Below w.heap.size w ((w.alloc (.cells #[.string tn, .int .i64 ver, .slice ca n cc, .slice none 0 0, .int .u64 0, .int .u64 0] 59)).alloc (.cells #[.string s] 9)) := ((Below.refl _ _).alloc (Nat.le_refl _) _).alloc (by simp) _
  have h1 := (Has.new w [.string tn, .int .i64 ver, .slice ca n cc, .slice none 0 0, .int .u64 0, .int .u64 0] 59).alloc (.cells #[.string s] 9)
  have h2 := Has.new (w.alloc (.cells #[.string tn, .int .i64 ver, .slice ca n cc, .slice none 0 0, .int .u64 0, .int .u64 0] 59)) [.string s] 9
  simp only [World.size_alloc] at h2
  have t2 := h1.cell (o := 2) rfl
  have t3 := h2.cell (o := 0) rfl
  have hc := idx_any cs ca cc s r hF (w.heap.size + 1) _ (hr.kept hB) hll t3
  rw [← hn] at hc ⊢
  replace hn := Lib.hid hn
  replace hc := Lib.hid hc
  replace hB := Lib.hid hB
  clear h1 h2 t3
  go_enter Tryz.func26, Tryz.ntmps26
  go_wp2_with fail
  refine hc.out.mono ?_
  rintro e w1 ⟨rfl, hB1⟩
  have hfin : post (.returned (.int .i64 r)) w1 := by
    rw [← hpost.out]
    exact ⟨rfl, hB.out.trans (hB1.mono hB.out.size)⟩
  replace hfin := Lib.hid hfin
  go_wp2_with fail
  first | exact hfin.out | (go_ret; exact hfin.out)
end Go.Proofs.YtgnoikfmhncbmaaGreatDoor
