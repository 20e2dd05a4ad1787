/- slices.Equal of bytes; the reference's Image. -/
import Derived.Test.YtpgjpoilcdkjgaaO31
import Derived.Test.YtpgjpoilcdkjgaaO25
namespace Go.Proofs.Ytpgjpoilcdkjgaa
open Go.RowKit

theorem bytes_get (l : List Nat) (i : Nat) (h : i < l.length) : (bytesV l)[i]? = some (.int .u8 ((l.getD i 0 : Nat) : Int)) := by
  unfold bytesV; rw [List.getElem?_map, get_of_lt 0 h]; rfl
theorem bytes_no {xs ys : List Nat} {k : Nat} (hne : xs.getD k 0 ≠ ys.getD k 0) : decide (xs = ys) = false := by
  simp only [decide_eq_false_iff_not]
  intro e; subst e; exact hne rfl

set_option maxHeartbeats 4000000 in
set_option maxRecDepth 100000 in
theorem equal_bytes (va vb : Value) (xs ys : List Nat) (w : World) (ha : Rd w va xs.length (bytesV xs)) (hb : Rd w vb ys.length (bytesV ys)) (hx : xs.length ≤ 9223372036854775807) (hy : ys.length ≤ 9223372036854775807) :
    Calls Try.prog 24 #[va, vb] w (RBPost w (decide (xs = ys))) := by
  obtain ⟨a, ca, rfl, ha⟩ := ha
  obtain ⟨b, cb, rfl, hb⟩ := hb
  generalize hpost : RBPost w (decide (xs = ys)) = post
  by_cases hl : xs.length = ys.length
  · have hl1 : ((xs.length : Int) != (ys.length : Int)) = false := by simp [hl]
    replace hpost := Lib.hid hpost
    have Hl := Lib.hid hl
    clear hl
    go_enter Try.func24, Try.ntmps24
    go_wp2_with fail
    go_loopw [13] (fun i wr => ∃ (k m : Nat), k ≤ xs.length ∧ i = .int .i64 k ∧ wr = w.drewN m ∧ Hid (xs.take k = ys.take k)) (fun i _ => xs.length - (intOf i).toNat)
    case atStart => exact ⟨0, 0, Nat.zero_le _, rfl, rfl, rfl⟩
    case round =>
      obtain ⟨k, m, hk, rfl, rfl, hpre⟩ := hrel
      by_cases hlt : k < xs.length
      · have hly : k < ys.length := by have := Hl.out; omega
        rcases ha with ⟨h0, _⟩ | ⟨ba, oa, rfl, ha⟩
        · omega
        rcases hb with ⟨h0, _⟩ | ⟨bb, ob, rfl, hb⟩
        · omega
        have c1 := ha k _ (bytes_get xs k hlt)
        have c2 := hb k _ (bytes_get ys k hly)
        have hyl : (k : Int) < (ys.length : Int) := by omega
        have hn := fun (hne : xs.getD k 0 ≠ ys.getD k 0) => bytes_no hne
        have hstep : xs.getD k 0 = ys.getD k 0 → Hid (xs.take (k+1) = ys.take (k+1)) := fun e => by
          show xs.take (k+1) = ys.take (k+1)
          rw [take_getD xs k 0 hlt, take_getD ys k 0 hly, hpre.out, e]
        clear ha hb
        generalize xs.getD k 0 = p at *
        generalize ys.getD k 0 = q at *
        by_cases he : p = q
        · have he2 : ((p : Int) != (q : Int)) = false := by simp [he]
          have hs := hstep he
          clear hstep hn he
          go_wp2_with fail
          go_quiet (fail)
          go_wp2_with fail
          go_roundw
          case rel => exact ⟨k + 1, m + nq, by omega, by go_num, by simp, hs⟩
          case measure => simp [intOf]; omega
        · have he2 : ((p : Int) != (q : Int)) = true := by simp; omega
          have hs := hn he
          rw [hs] at hpost
          replace hs := Lib.hid hs
          clear hstep hn he
          go_wp2_with fail
          go_quiet (fail)
          go_wp2_with fail
          have hp : post (.returned (.bool false)) ((w.drewN m).drewN nq) := by rw [← hpost.out]; exact ⟨rfl, m + nq, by simp⟩
          first | exact hp | (go_ret; exact hp)
      · have hk' : k = xs.length := by omega
        subst hk'
        have e : xs = ys := by
          have := hpre.out
          rwa [List.take_of_length_le (Nat.le_refl _), List.take_of_length_le (by have := Hl.out; omega)] at this
        rw [decide_eq_true e] at hpost
        replace e := Lib.hid e
        go_wp2_with fail
        have hp : post (.returned (.bool true)) (w.drewN m) := by rw [← hpost.out]; exact ⟨rfl, m, rfl⟩
        first | exact hp | (go_ret; exact hp)
  · have hl1 : ((xs.length : Int) != (ys.length : Int)) = true := by simp; omega
    have hne : decide (xs = ys) = false := by simp; intro e; exact hl (by rw [e])
    rw [hne] at hpost
    replace hpost := Lib.hid hpost
    clear hl hne
    go_enter Try.func24, Try.ntmps24
    go_wp2_with fail
    have hp : post (.returned (.bool false)) w := by rw [← hpost.out]; exact ⟨rfl, 0, rfl⟩
    first | exact hp | (go_ret; exact hp)

theorem inn_get (k : Nat) : ∀ (set : List Int) (l : List Bool), (∀ i ∈ set, 0 ≤ i) → k < l.length → (set.foldl (fun l i => l.set i.toNat true) l).getD k false = (l.getD k false || decide ((k : Int) ∈ set))
  | [], l, _, _ => by simp
  | i :: set, l, h, hk => by
    have h0 := h i (by simp)
    rw [List.foldl_cons, inn_get k set _ (fun j hj => h j (by simp [hj])) (by simpa using hk)]
    rw [List.getD, List.getElem?_set]
    by_cases hi : i.toNat = k
    · have : (k : Int) = i := by omega
      rw [if_pos hi, if_pos (by omega)]
      simp [this]
    · have : ¬ (k : Int) = i := by omega
      rw [if_neg hi]
      simp [this]
theorem innOf_get (G : Gr) (set : List Int) (h : ∀ i ∈ set, 0 ≤ i) (k : Nat) (hk : k < G.ws.length) : (innOf G set).getD k false = decide ((k : Int) ∈ set) := by
  unfold innOf
  rw [inn_get k set _ h (by simpa using hk)]
  rw [List.getD, List.getElem?_replicate, if_pos hk]
  simp
def shr (val k : Nat) : Nat := val / 2 ^ (8 * k)
theorem shr_succ (val k : Nat) : shr val (k + 1) = shr val k / 256 := by
  unfold shr
  rw [Nat.div_div_eq_div_mul, Nat.mul_add, Nat.pow_add]
theorem shr_le (val k : Nat) : shr val k ≤ val := Nat.div_le_self _ _
def RImg (w : World) (G : Gr) (set : List Int) (e : Ending) (w' : World) : Prop :=
  ∃ b, e = .returned (.slice (some ⟨b, 0, none⟩) 256 256) ∧ Has w' b (bytesV (imgP G set)) 5 ∧ Below w.heap.size w w' ∧ w.heap.size ≤ b

set_option maxHeartbeats 8000000 in
set_option maxRecDepth 100000 in
theorem refimage_any (G : Gr) (ok : G.Ok) (hn4 : G.n = 4) (sa : Option Addr) (sc : Nat) (va : Value) (set : List Int) (w : World) (h : Rd w (.slice sa G.ws.length sc) G.ws.length (sCells (stf G)))
    (hs : Rd w va set.length (set.map (.int .i64))) (hsl : set.length ≤ 9223372036854775807) (hp : ∀ i ∈ set, 0 ≤ i) :
    Calls Try.prog 25 #[.int .i64 4, .slice sa G.ws.length sc, va] w (RImg w G set) := by
  have hend : ∀ w' b, Has w' b (bytesV (imgK G (innOf G set) G.ws.length)) 5 → Below w.heap.size w w' → w.heap.size ≤ b → RImg w G set (.returned (.slice (some ⟨b, 0, none⟩) 256 256)) w' := fun w' b p1 p2 p3 => ⟨b, rfl, p1, p2, p3⟩
  generalize RImg w G set = post at *
  replace hend := Lib.hid hend
  have hwl := ok.wl
  have hmk := make1 (P := Try.prog) 46 5 (.int .u8 0) 1 Try.underlying46 info5 rfl 256 (by omega) (by omega) w
  have hP1 : Has (w.alloc (.cells (Array.replicate 256 (.int .u8 0)) 5)) w.heap.size (bytesV (imgK G (innOf G set) 0)) 5 := by
    have := Has.rep w 256 (.int .u8 0) 5
    simpa [imgK, bytesV, hn4] using this
  have hBp := (Below.refl w.heap.size w).alloc (Nat.le_refl _) (.cells (Array.replicate 256 (.int .u8 0)) 5)
  have himg := fun k => imgK_length G (innOf G set) k
  have hsucc : ∀ j, imgK G (innOf G set) (j + 1) = if (innOf G set).getD j false then putW (imgK G (innOf G set) j) (G.ws.getD j (0, 0)).1 (G.ws.getD j (0, 0)).2 8 else imgK G (innOf G set) j := fun _ => rfl
  have hig := fun k hk => innOf_get G set hp k hk
  have hhas := fun (x : Int) w h => refhas_any va set x w h hsl
  rw [hn4] at himg
  generalize innOf G set = inn at *
  replace hsucc := Lib.hid hsucc
  replace hig := Lib.hid hig
  replace hhas := Lib.hid hhas
  replace himg := Lib.hid himg
  replace hp := Lib.hid hp
  have hmk2 : (Instr.makeSlice 46 (.int .i64 256) (.int .i64 256)).run Try.prog w = .ok (.slice (some ⟨w.heap.size, 0, none⟩) 256 256) (w.alloc (.cells (Array.replicate 256 (.int .u8 0)) 5)) := hmk
  obtain ⟨N, hN⟩ : ∃ N : Nat, N = 256 := ⟨256, rfl⟩
  have hN2 := Lib.hid hN
  rw [← hN] at hP1 hBp
  replace hN := Lib.hid hN
  clear hmk
  go_enter Try.func25, Try.ntmps25
  go_wp2_with fail
  rw [← hN.out]
  go_loopw [17] (fun i wx => ∃ (j : Nat), j ≤ G.ws.length ∧ i = .int .i64 j ∧ Has wx w.heap.size (bytesV (imgK G inn j)) 5 ∧ Below w.heap.size w wx) (fun i _ => G.ws.length - (intOf i).toNat)
  case atStart => exact ⟨0, by omega, rfl, hP1, hBp⟩
  case round =>
    clear hP1 hBp hmk2
    obtain ⟨j, hj, rfl, hP, hB⟩ := hrel
    obtain ⟨wx, rfl⟩ : ∃ x, x = wr := ⟨wr, rfl⟩
    have hszx := hB.size
    have hPl := hP.lt
    by_cases hlt : j < G.ws.length
    · have hjI : (j : Int) < G.ws.length := by omega
      obtain ⟨b, o, c, e1, f⟩ := (h.kept hB).cells (by omega)
      simp only [Value.slice.injEq, true_and] at e1
      obtain ⟨rfl, hc⟩ := e1
      replace hc := Lib.hid hc
      have c0 : wx.cell? ⟨b, o + j * 4, none⟩ = _ := f _ _ (sCells_get _ j _ (stf_get G j hlt) 0 _ rfl)
      have c1 : wx.cell? ⟨b, o + j * 4 + 1, none⟩ = _ := f _ _ (sCells_get _ j _ (stf_get G j hlt) 1 _ rfl)
      have c2 : wx.cell? ⟨b, o + j * 4 + 2, none⟩ = _ := f _ _ (sCells_get _ j _ (stf_get G j hlt) 2 _ rfl)
      have c3 : wx.cell? ⟨b, o + j * 4 + 3, none⟩ = _ := f _ _ (sCells_get _ j _ (stf_get G j hlt) 3 _ rfl)
      simp only at c0 c1 c2 c3
      have hmw : G.ws.getD j (0, 0) ∈ G.ws := mem_getD (0, 0) hlt
      obtain ⟨ho1, hv1⟩ := ok.off _ hmw
      rw [hn4] at ho1
      have hal := ok.al _ hmw
      have hs1 := hsucc.out j
      rw [hig.out j hlt] at hs1
      have hlen := himg.out j
      have hh := hhas.out (j : Int)
      generalize (G.ws.getD j (0, 0)).2 = val at *
      generalize (G.ws.getD j (0, 0)).1 = off at *
      generalize G.line j = ln at *
      generalize G.must j = mu at *
      have hW := Has.new wx [.int .i64 (ln : Int), .int .u64 (off : Int), .int .u64 (val : Int), .bool mu] 57
      have hA : Below wx.heap.size wx (wx.alloc (.cells #[.int .i64 (ln : Int), .int .u64 (off : Int), .int .u64 (val : Int), .bool mu] 57)) := (Below.refl _ _).alloc (Nat.le_refl _) _
      have hB2 := hB.trans (hA.mono hszx)
      have hP2 := hP.alloc (.cells #[.int .i64 (ln : Int), .int .u64 (off : Int), .int .u64 (val : Int), .bool mu] 57)
      have hh1 := hh _ (hs.kept hB2)
      clear f hA hh
      cases hin : decide ((j : Int) ∈ set) with
      | false =>
        rw [hin] at hh1 hs1
        simp only [Bool.false_eq_true, if_false] at hs1
        replace hs1 := Lib.hid hs1
        replace hin := Lib.hid hin
        replace hh1 := Lib.hid hh1
        go_wp2_with fail
        refine hh1.out.mono ?_
        rintro e w2 ⟨rfl, rfl⟩
        go_wp2_with fail
        go_roundw
        case rel => exact ⟨j + 1, by omega, by go_num, by rw [hs1.out]; exact hP2, hB2⟩
        case measure => simp [intOf]; omega
      | true =>
        rw [hin] at hh1 hs1
        simp only [if_true] at hs1
        replace hs1 := Lib.hid hs1
        replace hin := Lib.hid hin
        replace hh1 := Lib.hid hh1
        have q2 := hW.cell (o := 2) rfl
        have hsh0 : (val : Int) = ((shr val 0 : Nat) : Int) := by simp [shr]
        replace hsh0 := Lib.hid hsh0
        go_wp2_with fail
        refine hh1.out.mono ?_
        rintro e w2 ⟨rfl, rfl⟩
        go_wp2_with fail
        go_loopw [10, 11] (fun v i wy => ∃ (k : Nat), k ≤ 8 ∧ i = .int .i64 k ∧ v = .int .u64 ((shr val k : Nat) : Int) ∧ Has wy w.heap.size (bytesV (putW (imgK G inn j) off val k)) 5 ∧ Has wy wx.heap.size [.int .i64 (ln : Int), .int .u64 (off : Int), .int .u64 (val : Int), .bool mu] 57 ∧ Below w.heap.size w wy) (fun _ i _ => 8 - (intOf i).toNat)
        case atStart => exact ⟨0, by omega, rfl, by rw [← hsh0.out], hP2, hW, hB2⟩
        case round =>
          clear hP2 hW hB2 q2 c0 c1 c2 c3 hP
          obtain ⟨k, hk, rfl, rfl, hP, hW, hBy⟩ := hrel
          obtain ⟨wy, rfl⟩ : ∃ x, x = wr := ⟨wr, rfl⟩
          by_cases hk8 : k < 8
          · have q1 := hW.cell (o := 1) rfl
            have hpl : off + k < (putW (imgK G inn j) off val k).length := by rw [putW_length, hlen]; omega
            have qp := hP.cell (o := off + k) (v := .int .u8 (((putW (imgK G inn j) off val k).getD (off + k) 0 : Nat) : Int)) (bytes_get _ _ hpl)
            have qf := hP.free (off + k)
            have hok : ((off : Int) + (k : Int)) < (N : Int) := by have := hN2.out; omega
            have hok2 : ((off : Int) + (k : Int)) < 18446744073709551616 := by omega
            have hsu := shr_succ val k
            have hsl := shr_le val k
            have hput : putW (imgK G inn j) off val (k + 1) = (putW (imgK G inn j) off val k).set (off + k) (shr val k % 256) := rfl
            have hsu2 : ((shr val (k + 1) : Nat) : Int) = ((shr val k : Nat) : Int) / 256 := by rw [hsu]; simp
            clear hsu
            replace hsu2 := Lib.hid hsu2
            generalize shr val k = sv at *
            have hP3 := hP.set (off + k) (.int .u8 ((sv : Int) % 256))
            have hW3 := hW.set_ne (a := ⟨w.heap.size, off + k, none⟩) (by show wx.heap.size ≠ w.heap.size; omega) (.int .u8 ((sv : Int) % 256))
            have hB3 := hBy.setCell (p := ⟨w.heap.size, off + k, none⟩) (Nat.le_refl _) (.int .u8 ((sv : Int) % 256))
            have hfin : ∀ w', Has w' w.heap.size ((bytesV (putW (imgK G inn j) off val k)).set (off + k) (.int .u8 ((sv : Int) % 256))) 5 → Has w' w.heap.size (bytesV (putW (imgK G inn j) off val (k + 1))) 5 := by
              intro w' p
              rw [hput]; unfold bytesV at *; rw [List.map_set]
              have : (((sv % 256 : Nat)) : Int) = (sv : Int) % 256 := by simp
              rw [this]; exact p
            replace hfin := Lib.hid hfin
            clear hput
            generalize putW (imgK G inn j) off val k = ps at *
            have hsvI : (sv : Int) < 18446744073709551616 := by omega
            have hq0 : 0 ≤ (sv : Int) / 256 := by omega
            have hq1 : (sv : Int) / 256 < 18446744073709551616 := by omega
            have hq2 : 0 ≤ (sv : Int) % 256 := by omega
            have hq3 : (sv : Int) % 256 < 256 := by omega
            have hd0 : ((256 : Int) == 0) = false := by decide
            have hd1 : ¬ (256 : Int) = 0 := by decide
            have hq : decide ((k : Int) < 8) = true := decide_eq_true (by omega)
            have hw64 : wrap64 ((k : Int) + 1) = (k : Int) + 1 := by unfold wrap64; omega
            replace hk8 := Lib.hid hk8
            replace hw64 := Lib.hid hw64
            clear hk
            go_wp2_with fail
            replace hk8 := hk8.out
            rw [hw64.out]
            go_roundw
            case rel => exact ⟨k + 1, by omega, by go_num, by rw [hsu2.out], hfin.out _ hP3, hW3, hB3⟩
            case measure => simp [intOf]; omega
          · have hk' : k = 8 := by omega
            subst hk'
            go_wp2_with fail
            go_roundw
            case rel => exact ⟨j + 1, by omega, by go_num, by rw [hs1.out]; exact hP, hBy⟩
            case measure => simp [intOf]; omega
    · have hj' : j = G.ws.length := by omega
      subst hj'
      have hx := hend.out _ _ hP hB (Nat.le_refl _)
      rw [← hN2.out] at hx
      replace hx := Lib.hid hx
      go_wp2_with fail
      first | exact hx.out | (go_ret; exact hx.out)
end Go.Proofs.Ytpgjpoilcdkjgaa
