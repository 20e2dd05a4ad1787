/- The walk of Image. -/
import Derived.Test.YtjmdibgncaljaaaO4
namespace Go.Proofs.Ytjmdibgncaljaaa
open Go.RowKit

theorem info5 : (Try.prog.info? 5).map (fun i => (i.zero, i.size, i.bytes)) = some (some (.int .u8 0), 1, 1) := by kernel_rfl

def putW (p : List Nat) (off val : Nat) : Nat → List Nat
  | 0 => p
  | k + 1 => (putW p off val k).set (off + k) (val / 2 ^ (8 * k) % 256)
theorem putW_length (p : List Nat) (off val : Nat) : ∀ k, (putW p off val k).length = p.length
  | 0 => rfl
  | k + 1 => by simp [putW, putW_length p off val k]
def innOf (G : Gr) (set : List Int) : List Bool := set.foldl (fun l i => l.set i.toNat true) (List.replicate G.ws.length false)
def imgK (G : Gr) (inn : List Bool) : Nat → List Nat
  | 0 => List.replicate (G.n * 64) 0
  | k + 1 => if inn.getD k false then putW (imgK G inn k) (G.ws.getD k (0, 0)).1 (G.ws.getD k (0, 0)).2 8 else imgK G inn k
theorem imgK_length (G : Gr) (inn : List Bool) : ∀ k, (imgK G inn k).length = G.n * 64
  | 0 => by simp [imgK]
  | k + 1 => by
    simp only [imgK]
    split
    · rw [putW_length, imgK_length G inn k]
    · exact imgK_length G inn k
def imgP (G : Gr) (set : List Int) : List Nat := imgK G (innOf G set) G.ws.length
theorem inn_length (set : List Int) : ∀ l : List Bool, (set.foldl (fun l i => l.set i.toNat true) l).length = l.length := by
  induction set with
  | nil => intro l; rfl
  | cons i s ih => intro l; simp [ih]

theorem markAll_mem (G : Gr) : ∀ (l : List Int) (s t : Mk), markAll G l s = some t → ∀ i ∈ l, 0 ≤ i ∧ i < (G.ws.length : Int)
  | [], s, t, _, i, hi => by simp at hi
  | j :: l, s, t, h, i, hi => by
    simp only [markAll] at h
    cases h2 : markP G s j with
    | none => rw [h2] at h; cases h
    | some s' =>
      rw [h2] at h
      rcases List.mem_cons.1 hi with rfl | h3
      · unfold markP at h2
        split at h2
        · assumption
        · cases h2
      · exact markAll_mem G l s' t h i h3
theorem closedP_mem (G : Gr) (set : List Int) (h : closedP G set = true) : set.length ≤ G.ws.length ∧ ∀ i ∈ set, 0 ≤ i ∧ i < (G.ws.length : Int) := by
  unfold closedP at h
  simp only [Bool.and_eq_true, decide_eq_true_eq] at h
  refine ⟨h.1, ?_⟩
  cases h2 : markAll G set (mark0 G) with
  | none => rw [h2] at h; simp at h
  | some s => exact markAll_mem G set _ s h2

def bytesV (l : List Nat) : List Value := l.map fun (n : Nat) => .int .u8 (n : Int)
def ImgPost (G : Gr) (set : List Int) (w : World) (e : Ending) (w' : World) : Prop :=
  if closedP G set then ∃ b, e = .returned (.tuple #[.slice (some ⟨b, 0, none⟩) (G.n * 64) (G.n * 64), .int .i64 0]) ∧ Has w' b (bytesV (imgP G set)) 5 ∧ Below w.heap.size w w' ∧ w.heap.size ≤ b
  else e = .returned (.tuple #[.slice none 0 0, .int .i64 1]) ∧ Below w.heap.size w w'

set_option maxHeartbeats 4000000 in
set_option maxRecDepth 100000 in
theorem image_any (g : Nat) (G : Gr) (va : Value) (set : List Int) (w : World) (h : GraphSt w g G) (hs : Rd w va set.length (set.map (.int .i64))) (hsl : set.length ≤ 9223372036854775807) :
    Calls Try.prog 14 #[.pointer (some ⟨g, 0, none⟩), va] w (ImgPost G set w) := by
  generalize hpost : ImgPost G set w = post
  have hc := Lib.hid (closed_any g G va set w h hs hsl)
  obtain ⟨a, ca, rfl, hv⟩ := hs
  cases hcl : closedP G set with
  | false =>
    rw [hcl] at hc
    have hno : ∀ w', Below w.heap.size w w' → post (.returned (.tuple #[.slice none 0 0, .int .i64 1])) w' := by
      intro w' hB
      rw [← hpost]; unfold ImgPost; rw [hcl]; exact ⟨rfl, hB⟩
    replace hno := Lib.hid hno
    clear hpost hcl
    go_enter Try.func14, Try.ntmps14
    go_wp2_with fail
    refine hc.out.mono ?_
    rintro e w1 ⟨rfl, hB⟩
    have hx := hno.out w1 hB
    go_wp2_with fail
    first | exact hx | (go_ret2; exact hx)
  | true =>
    rw [hcl] at hc
    obtain ⟨hlen, hmem⟩ := closedP_mem G set hcl
    have hend : ∀ w' b, Has w' b (bytesV (imgP G set)) 5 → Below w.heap.size w w' → w.heap.size ≤ b → post (.returned (.tuple #[.slice (some ⟨b, 0, none⟩) (G.n * 64) (G.n * 64), .int .i64 0])) w' := by
      intro w' b p1 p2 p3
      rw [← hpost]; unfold ImgPost; rw [hcl]; exact ⟨b, rfl, p1, p2, p3⟩
    replace hend := Lib.hid hend
    clear hpost hcl
    have ok := h.ok
    have hn2 := ok.n2
    have hwl := ok.wl
    have hn1 := ok.n1
    obtain ⟨wa, wc, ra, rc, caa, ma, h1, h2, h3, h4, h5⟩ := h.ex
    go_enter Try.func14, Try.ntmps14
    go_wp2_with fail
    refine hc.out.mono ?_
    rintro e w1 ⟨rfl, hB⟩
    have c1 := bcell hB (h1.cell (o := 1) rfl)
    have hmk := make1 131 4 (.bool false) 1 Try.underlying131 info4 rfl G.ws.length (by omega) (by omega) w1
    have hsz := hB.size
    have hbs : Has (w1.alloc (.cells (Array.replicate G.ws.length (.bool false)) 4)) w1.heap.size (((innOf G [])).map .bool) 4 := by
      unfold innOf; rw [List.foldl_nil, mark0_bools]; exact Has.rep _ _ _ _
    have hBa := hB.alloc hsz (.cells (Array.replicate G.ws.length (.bool false)) 4)
    go_wp2_with fail
    go_loopw [25] (fun i wr => ∃ (k : Nat), k ≤ set.length ∧ i = .int .i64 k ∧ Has wr w1.heap.size ((innOf G (set.take k)).map .bool) 4 ∧ Below w.heap.size w wr) (fun i _ => set.length - (intOf i).toNat)
    case atStart => exact ⟨0, Nat.zero_le _, rfl, hbs, hBa⟩
    case round =>
      clear hbs hBa hmk c1
      obtain ⟨k, hk, rfl, hI, hBr⟩ := hrel
      by_cases hlt : k < set.length
      · rcases hv with ⟨h0, _⟩ | ⟨bs, os, rfl, hv⟩
        · omega
        have hcs := bcell hBr (hv k _ (ints_get set .i64 k hlt))
        have hm := hmem _ (mem_getD 0 hlt : set.getD k 0 ∈ set)
        have htk : innOf G (set.take (k + 1)) = (innOf G (set.take k)).set (set.getD k 0).toNat true := by unfold innOf; rw [take_getD set k 0 hlt, List.foldl_append]; rfl
        have hkI : (k : Int) < set.length := by omega
        generalize set.getD k 0 = i at *
        obtain ⟨n, hn⟩ := Int.eq_ofNat_of_zero_le hm.1
        subst hn
        rw [Int.toNat_natCast] at htk
        have hnl : n < G.ws.length := by omega
        have hil : (innOf G (set.take k)).length = G.ws.length := by unfold innOf; rw [inn_length]; simp
        have cc := hI.cell (o := n) (v := .bool ((innOf G (set.take k)).getD n false)) (by rw [List.getElem?_map, get_of_lt false (by rw [hil]; exact hnl)]; rfl)
        have ff := hI.free n
        have hI2 := hI.set n (.bool true)
        have hB2 := hBr.setCell (p := ⟨w1.heap.size, n, none⟩) (by simpa using hsz) (.bool true)
        have hI3 : ∀ w', Has w' w1.heap.size (((innOf G (set.take k)).map Value.bool).set n (.bool true)) 4 → Has w' w1.heap.size ((innOf G (set.take (k + 1))).map Value.bool) 4 := by
          intro w' p; rw [htk, List.map_set]; exact p
        replace hI3 := Lib.hid hI3
        clear htk hv hil
        go_wp2_with fail
        go_roundw
        case rel => exact ⟨k + 1, by omega, by go_num, hI3.out _ hI2, hB2⟩
        case measure => simp [intOf]; omega
      · have hk' : k = set.length := by omega
        subst hk'
        rw [List.take_length] at hI
        obtain ⟨wq, rfl⟩ : ∃ x, x = wr := ⟨wr, rfl⟩
        have hszr := hBr.size
        have c0 := bcell hBr (h1.cell (o := 0) rfl)
        have hmk := make1 28 5 (.int .u8 0) 1 Try.underlying28 info5 rfl (G.n * 64) (by omega) (by omega) wq
        rw [show ((G.n * 64 : Nat) : Int) = (G.n : Int) * 64 by omega] at hmk
        have c1 := bcell (hBr.alloc hszr (.cells (Array.replicate (G.n * 64) (.int .u8 0)) 5)) (h1.cell (o := 1) rfl)
        have hI1 := hI.alloc (.cells (Array.replicate (G.n * 64) (.int .u8 0)) 5)
        have hP1 : Has (wq.alloc (.cells (Array.replicate (G.n * 64) (.int .u8 0)) 5)) wq.heap.size (bytesV (imgK G (innOf G set) 0)) 5 := by
          have := Has.rep wq (G.n * 64) (.int .u8 0) 5
          simpa [imgK, bytesV] using this
        have hBp := hBr.alloc hszr (.cells (Array.replicate (G.n * 64) (.int .u8 0)) 5)
        have hil : (innOf G set).length = G.ws.length := by unfold innOf; rw [inn_length]; simp
        have himg := fun k => imgK_length G (innOf G set) k
        have hsucc : ∀ j, imgK G (innOf G set) (j + 1) = if (innOf G set).getD j false then putW (imgK G (innOf G set) j) (G.ws.getD j (0, 0)).1 (G.ws.getD j (0, 0)).2 8 else imgK G (innOf G set) j := fun _ => rfl
        have hend2 : imgP G set = imgK G (innOf G set) G.ws.length := rfl
        rw [hend2] at hend
        have hIlt := hI.lt
        clear hI hend2
        generalize innOf G set = inn at *
        go_wp2_with fail
        go_loopw [44] (fun i wx => ∃ (j : Nat), j ≤ G.ws.length ∧ i = .int .i64 j ∧ Has wx w1.heap.size (inn.map .bool) 4 ∧ Has wx wq.heap.size (bytesV (imgK G inn j)) 5 ∧ Below w.heap.size w wx) (fun i _ => G.ws.length - (intOf i).toNat)
        case atStart => exact ⟨0, Nat.zero_le _, rfl, hI1, hP1, hBp⟩
        case round =>
          clear hI1 hP1 hBp hmk c1 c0
          obtain ⟨j, hj, rfl, hI, hP, hBx⟩ := hrel
          obtain ⟨wx, rfl⟩ : ∃ x, x = wr := ⟨wr, rfl⟩
          have hszx := hBx.size
          by_cases hlt : j < G.ws.length
          · obtain ⟨bw, ow, cw, e2, f2⟩ := h2.cells (by omega)
            simp only [Value.slice.injEq, true_and] at e2
            obtain ⟨rfl, rfl⟩ := e2
            obtain ⟨hw0, hw1⟩ := wcells_get G.ws j _ (get_of_lt (0, 0) hlt)
            have w0 := bcell hBx (f2 _ _ hw0)
            have wv : wx.cell? ⟨bw, ow + j * 2 + 1, none⟩ = _ := bcell hBx (f2 _ _ hw1)
            have hmw : G.ws.getD j (0, 0) ∈ G.ws := mem_getD (0, 0) hlt
            obtain ⟨ho1, hv1⟩ := ok.off _ hmw
            have hal := ok.al _ hmw
            have hs := hsucc j
            have hlen := himg j
            have hjI : (j : Int) < G.ws.length := by omega
            generalize (G.ws.getD j (0, 0)).2 = val at *
            generalize (G.ws.getD j (0, 0)).1 = off at *
            have cb := (hI.alloc (.cells #[.int .u64 off, .int .u64 val] 133)).cell (o := j) (v := .bool (inn.getD j false)) (by rw [List.getElem?_map, get_of_lt false (by rw [hil]; exact hlt)]; rfl)
            have hI2 := hI.alloc (.cells #[.int .u64 off, .int .u64 val] 133)
            have hP2 := hP.alloc (.cells #[.int .u64 off, .int .u64 val] 133)
            have hB2 := hBx.alloc hszx (.cells #[.int .u64 off, .int .u64 val] 133)
            have hW := Has.new wx [.int .u64 off, .int .u64 val] 133
            have hIl := hI.lt
            have hPl := hP.lt
            clear hw0 hw1 f2
            cases hin : inn.getD j false with
            | false =>
              rw [hin] at cb hs
              simp only [Bool.false_eq_true, if_false] at hs
              replace hs := Lib.hid hs
              replace hin := Lib.hid hin
              go_wp2_with fail
              go_roundw
              case rel => exact ⟨j + 1, by omega, by go_num, hI2, by rw [hs.out]; exact hP2, hB2⟩
              case measure => simp [intOf]; omega
            | true =>
              rw [hin] at cb hs
              simp only [if_true] at hs
              replace hs := Lib.hid hs
              replace hin := Lib.hid hin
              go_wp2_with fail
              go_loopw [54] (fun i wy => ∃ (k : Nat), k ≤ 8 ∧ i = .int .i64 k ∧ Has wy w1.heap.size (inn.map .bool) 4 ∧ Has wy wq.heap.size (bytesV (putW (imgK G inn j) off val k)) 5 ∧ Has wy wx.heap.size [.int .u64 off, .int .u64 val] 133 ∧ Below w.heap.size w wy) (fun i _ => 8 - (intOf i).toNat)
              case atStart => exact ⟨0, by omega, rfl, hI2, hP2, hW, hB2⟩
              case round =>
                clear hI2 hP2 hW hB2 cb w0 wv
                obtain ⟨k, hk, rfl, hI, hP, hW, hBy⟩ := hrel
                obtain ⟨wy, rfl⟩ : ∃ x, x = wr := ⟨wr, rfl⟩
                by_cases hk8 : k < 8
                · have q0 := hW.cell (o := 0) rfl
                  have q1 := hW.cell (o := 1) rfl
                  have hpl : off + k < (putW (imgK G inn j) off val k).length := by rw [putW_length, hlen]; omega
                  have qp := hP.cell (o := off + k) (v := .int .u8 (((putW (imgK G inn j) off val k).getD (off + k) 0 : Nat) : Int)) (by unfold bytesV; rw [List.getElem?_map, get_of_lt 0 hpl]; rfl)
                  have qf := hP.free (off + k)
                  have hok : ((off : Int) + (k : Int)) < (G.n : Int) * 64 := by omega
                  have e8 : ((8 : Int) * (k : Int)).toNat = 8 * k := by omega
                  have hput : putW (imgK G inn j) off val (k + 1) = (putW (imgK G inn j) off val k).set (off + k) (val / 2 ^ (8 * k) % 256) := rfl
                  have hP3 := hP.set (off + k) (.int .u8 ((val : Int) / 2 ^ (8 * k) % 256))
                  have hI3 := hI.set_ne (a := ⟨wq.heap.size, off + k, none⟩) (by show w1.heap.size ≠ wq.heap.size; omega) (.int .u8 ((val : Int) / 2 ^ (8 * k) % 256))
                  have hW3 := hW.set_ne (a := ⟨wq.heap.size, off + k, none⟩) (by show wx.heap.size ≠ wq.heap.size; omega) (.int .u8 ((val : Int) / 2 ^ (8 * k) % 256))
                  have hB3 := hBy.setCell (p := ⟨wq.heap.size, off + k, none⟩) hszr (.int .u8 ((val : Int) / 2 ^ (8 * k) % 256))
                  have hfin : ∀ w', Has w' wq.heap.size ((bytesV (putW (imgK G inn j) off val k)).set (off + k) (.int .u8 ((val : Int) / 2 ^ (8 * k) % 256))) 5 → Has w' wq.heap.size (bytesV (putW (imgK G inn j) off val (k + 1))) 5 := by
                    intro w' p
                    rw [hput]; unfold bytesV at *; rw [List.map_set]
                    have : (((val / 2 ^ (8 * k) % 256 : Nat)) : Int) = (val : Int) / 2 ^ (8 * k) % 256 := by simp
                    rw [this]; exact p
                  replace hfin := Lib.hid hfin
                  clear hput
                  generalize putW (imgK G inn j) off val k = ps at *
                  go_wp2_with fail
                  go_roundw
                  case rel => exact ⟨k + 1, by omega, by go_num, hI3, hfin.out _ hP3, hW3, hB3⟩
                  case measure => simp [intOf]; omega
                · have hk' : k = 8 := by omega
                  subst hk'
                  go_wp2_with fail
                  go_roundw
                  case rel => exact ⟨j + 1, by omega, by go_num, hI, by rw [hs.out]; exact hP, hBy⟩
                  case measure => simp [intOf]; omega
          · have hj' : j = G.ws.length := by omega
            subst hj'
            have hx := hend.out _ _ hP hBx hszr
            go_wp2_with fail
            first | exact hx | (go_ret2; exact hx)
end Go.Proofs.Ytjmdibgncaljaaa
