/- The walk of New where nothing is refused. -/
import Derived.Test.YtjmdibgncaljaaaO16
import Derived.Test.YtjmdibgncaljaaaV1
namespace Go.Proofs.Ytjmdibgncaljaaa
open Go.RowKit Go.Maps

/-- An event that New lets by. -/
structure Ev.Good (e : Ev) : Prop where
  fit : e.Fit
  z : 4 ≤ e.k → e.off = 0
  ch : ∃ ca cl cc, e.ch = .slice ca cl cc ∧ validP e.k e.t e.off e.val e.old e.line e.n cl = true
def evCells (es : List Ev) : List Value := es.flatMap Ev.cells
theorem evCells_get : ∀ (es : List Ev) (i : Nat) (e : Ev), es[i]? = some e → ∀ j v, e.cells[j]? = some v → (evCells es)[i * 8 + j]? = some v
  | q :: es, 0, e, h, j, v, hj => by
    simp at h
    subst h
    have hl : j < q.cells.length := by
      rcases Nat.lt_or_ge j q.cells.length with h1 | h1
      · exact h1
      · rw [List.getElem?_eq_none h1] at hj; cases hj
    simp only [evCells, List.flatMap_cons, Nat.zero_mul, Nat.zero_add]
    rw [List.getElem?_append_left hl]; exact hj
  | q :: es, i + 1, e, h, j, v, hj => by
    have := evCells_get es i e (by simpa using h) j v hj
    have e1 : (i + 1) * 8 + j = q.cells.length + (i * 8 + j) := by show _ = 8 + _; omega
    simp only [evCells, List.flatMap_cons]
    rw [e1, List.getElem?_append_right (by omega), Nat.add_sub_cancel_left]
    exact this
  | [], _, _, h, _, _, _ => by simp at h
def NewPost (w : World) (n : Nat) (es : List Ev) (e : Ending) (w' : World) : Prop :=
  ∃ g, e = .returned (.tuple #[.pointer (some ⟨g, 0, none⟩), .int .i64 0]) ∧ GraphSt w' g (runP n es).G ∧ Below w.heap.size w w'

theorem runCells_at (B t : Nat) (ht : t < 8) : (runCells B t)[2 + t]? = some (.map none) := by
  match t, ht with
  | 0, _ | 1, _ | 2, _ | 3, _ | 4, _ | 5, _ | 6, _ | 7, _ => rfl
/-- What region 13 of New leaves. -/
def G13 (w : World) (B n : Nat) (wx : World) : Prop :=
  ∃ cb mb, (cb + mb = 2 * B + 1 ∧ B ≤ cb ∧ B ≤ mb) ∧ Has wx cb (List.replicate n (.int .i64 0)) 3 ∧ Has wx mb (List.replicate n (.int .i64 0)) 3 ∧
    Has wx (B + 2) [.int .i64 (n : Int), .slice none 0 0, .slice none 0 0, .slice (some ⟨cb, 0, none⟩) n n, .slice (some ⟨mb, 0, none⟩) n n] 106 ∧ wx.heap.size = B + 3 ∧ Below w.heap.size w wx

theorem G13_mk {w wr : World} {n c m : Nat} (hB : Below w.heap.size w wr) (h : (c = wr.heap.size ∧ m = wr.heap.size + 1) ∨ (c = wr.heap.size + 1 ∧ m = wr.heap.size)) :
    G13 w wr.heap.size n ((((wr.alloc (.cells (Array.replicate n (.int .i64 0)) 3)).alloc (.cells (Array.replicate n (.int .i64 0)) 3)).alloc
      (.cells #[.int .i64 (n : Int), .slice none 0 0, .slice none 0 0, .slice (some ⟨c, 0, none⟩) n n, .slice (some ⟨m, 0, none⟩) n n] 106)).drew) := by
  have a0 := Has.rep wr n (.int .i64 0) 3
  have a1 := Has.rep (wr.alloc (.cells (Array.replicate n (.int .i64 0)) 3)) n (.int .i64 0) 3
  have a2 := Has.new ((wr.alloc (.cells (Array.replicate n (.int .i64 0)) 3)).alloc (.cells (Array.replicate n (.int .i64 0)) 3)) [.int .i64 (n : Int), .slice none 0 0, .slice none 0 0, .slice (some ⟨c, 0, none⟩) n n, .slice (some ⟨m, 0, none⟩) n n] 106
  simp only [World.size_alloc] at a1 a2
  have b0 := ((a0.alloc (.cells (Array.replicate n (.int .i64 0)) 3)).alloc (.cells #[.int .i64 (n : Int), .slice none 0 0, .slice none 0 0, .slice (some ⟨c, 0, none⟩) n n, .slice (some ⟨m, 0, none⟩) n n] 106)).drew
  have b1 := (a1.alloc (.cells #[.int .i64 (n : Int), .slice none 0 0, .slice none 0 0, .slice (some ⟨c, 0, none⟩) n n, .slice (some ⟨m, 0, none⟩) n n] 106)).drew
  have hs := hB.size
  refine ⟨c, m, by omega, ?_, ?_, a2.drew, by simp, ?_⟩
  · rcases h with ⟨rfl, rfl⟩ | ⟨rfl, rfl⟩
    · exact b0
    · exact b1
  · rcases h with ⟨rfl, rfl⟩ | ⟨rfl, rfl⟩
    · exact b1
    · exact b0
  · exact below_drewN (((hB.alloc hs _).alloc (by simp; omega) _).alloc (by simp; omega) _) 1

set_option maxHeartbeats 4000000 in
set_option maxRecDepth 100000 in
theorem new_ok (n : Nat) (es : List Ev) (a : Option Addr) (cap : Nat) (w : World) (h1 : 1 ≤ n) (h2 : n ≤ 4096) (hl : es.length ≤ 20000) (hr : Rd w (.slice a es.length cap) es.length (evCells es)) (hg : ∀ e ∈ es, e.Good) :
    Calls Try.prog 7 #[.int .i64 n, .slice a es.length cap] w (NewPost w n es) := by
  generalize hpost : NewPost w n es = post
  replace hpost := Lib.hid hpost
  have hmk := make1 (P := Try.prog) 49 3 (.int .i64 0) 8 Try.underlying49 info3 rfl n (by omega) (by omega)
  have hn1 : ¬ (n : Int) < 1 := by omega
  have hd1 : decide ((n : Int) < 1) = false := decide_eq_false (by omega)
  have hd2 : decide ((4096 : Int) < (n : Int)) = false := decide_eq_false (by omega)
  have hd3 : decide ((20000 : Int) < (es.length : Int)) = false := decide_eq_false (by omega)
  have hll : (es.length : Int) ≤ 20000 := by omega
  go_enter Try.func7, Try.ntmps7
  go_wp2_with fail
  go_loopw [24] (fun i wr => ∃ k : Nat, k ≤ es.length ∧ i = .int .i64 k ∧ Below w.heap.size w wr) (fun i _ => es.length - (intOf i).toNat)
  case atStart => exact ⟨0, Nat.zero_le _, rfl, Below.refl _ _⟩
  case round =>
    obtain ⟨k, hk, rfl, hB⟩ := hrel
    by_cases hlt : k < es.length
    · have he := get_of_lt ⟨0, 0, 0, 0, 0, 0, 0, .int .i64 0⟩ hlt
      have hge := hg _ (List.mem_of_getElem? he)
      generalize es.getD k ⟨0, 0, 0, 0, 0, 0, 0, .int .i64 0⟩ = e at *
      obtain ⟨bl, ol, cl, ea, fa⟩ := (hr.kept hB).cells (by omega)
      simp only [Value.slice.injEq, true_and] at ea
      obtain ⟨rfl, hcap⟩ := ea
      replace hcap := Lib.hid hcap
      have c0 : wr.cell? ⟨bl, ol + k * 8, none⟩ = _ := fa _ _ (evCells_get es k e he 0 _ rfl)
      have c1 : wr.cell? ⟨bl, ol + k * 8 + 1, none⟩ = _ := fa _ _ (evCells_get es k e he 1 _ rfl)
      have c2 : wr.cell? ⟨bl, ol + k * 8 + 2, none⟩ = _ := fa _ _ (evCells_get es k e he 2 _ rfl)
      have c3 : wr.cell? ⟨bl, ol + k * 8 + 3, none⟩ = _ := fa _ _ (evCells_get es k e he 3 _ rfl)
      have c4 : wr.cell? ⟨bl, ol + k * 8 + 4, none⟩ = _ := fa _ _ (evCells_get es k e he 4 _ rfl)
      have c5 : wr.cell? ⟨bl, ol + k * 8 + 5, none⟩ = _ := fa _ _ (evCells_get es k e he 5 _ rfl)
      have c6 : wr.cell? ⟨bl, ol + k * 8 + 6, none⟩ = _ := fa _ _ (evCells_get es k e he 6 _ rfl)
      have c7 : wr.cell? ⟨bl, ol + k * 8 + 7, none⟩ = _ := fa _ _ (evCells_get es k e he 7 _ rfl)
      obtain ⟨ca, cl2, cc, hch, hv⟩ := hge.ch
      obtain ⟨kk, t, off, val, old, line, en, ch⟩ := e
      simp only at hch hv c0 c1 c2 c3 c4 c5 c6 c7
      subst hch
      have hfk := hge.fit.k
      simp only at hfk
      have hk6 : ((kk : Int) == 6) = false := by rw [beq_eq_false_iff_ne]; omega
      have hk7 : ((kk : Int) == 7) = false := by rw [beq_eq_false_iff_ne]; omega
      have hva := fun w => valid_any kk t off val old line en ca cl2 cc w
      rw [hv] at hva
      replace hva := Lib.hid hva
      replace hv := Lib.hid hv
      replace he := Lib.hid he
      have hlI : (k : Int) < es.length := by omega
      clear fa
      go_wp2_with fail
      refine (hva.out _).mono ?_
      rintro e' w1 ⟨rfl, hB1⟩
      have x0 := ((Has.new wr [.int .u8 (kk : Int), .int .i64 (t : Int), .int .u64 (off : Int), .int .u64 (val : Int), .int .u64 (old : Int), .int .i64 (line : Int), .int .i64 en, .slice ca cl2 cc] 30).only (Only.of_below hB1) (by simp)).cell (o := 0) rfl
      have hB2 : Below w.heap.size w w1 := (hB.alloc hB.size _).trans (hB1.mono (by have := hB.size; simp; omega))
      clear c0 c1 c2 c3 c4 c5 c6 c7
      go_wp2_with fail
      go_roundw
      case rel => exact ⟨k + 1, by omega, by go_num, hB2⟩
      case measure => simp [intOf]; omega
    · have hkk : ¬ (k : Int) < es.length := by omega
      go_wp2_with fail
      have hsB := hB.size
      go_upto_region 13 with fail
      go_cut [8] (fun g wx => g = .pointer (some ⟨wr.heap.size + 2, 0, none⟩) ∧ G13 w wr.heap.size n wx)
      case first =>
        go_region
        · go_wp2_with fail
          go_meet
          exact ⟨rfl, G13_mk hB (.inl ⟨rfl, rfl⟩)⟩
        · go_wp2_with fail
          go_meet
          exact ⟨rfl, G13_mk hB (.inr ⟨rfl, rfl⟩)⟩
      case rest =>
        obtain ⟨rfl, cb, mb, hcm, hcb, hmb, hgr, hsz, hBw⟩ := hcut
        clear hB
        generalize wr.heap.size = B at hcm hcb hmb hgr hsz hBw hsB ⊢
        replace hsz := Lib.hid hsz
        have hmm := @run_makeMap Try.prog
        go_upto_region 14 with fail
        go_cut [9] (fun r wx => r = .pointer (some ⟨B + 4, 0, none⟩) ∧ InitSt wx B cb mb n 0 ∧ Below w.heap.size w wx)
        case first =>
          go_wp2_with fail
          go_meet
          rw [hsz.out]
          refine ⟨rfl, ?_, ?_⟩
          · have hr := Has.new (wc.alloc (.map #[] 0)) (runCells B 0) 112
            have hs := hsz.out
            have e4 : (wc.alloc (.map #[] 0)).heap.size = B + 4 := by simp [hs]
            rw [e4] at hr
            refine ⟨hcm, (hcb.alloc _).alloc _, (hmb.alloc _).alloc _, (hgr.alloc _).alloc _, ?_, hr, ?_, ?_⟩
            · rw [heap_alloc_lt (by omega), ← hs]; exact heap_alloc_new
            · intro j hj; omega
            · simp [hs]
          · exact (hBw.alloc hBw.size _).alloc (by have := hBw.size; simp; omega) _
        case rest =>
          obtain ⟨rfl, hI, hBx⟩ := hcut
          clear hcb hmb hgr hBw hsz
          go_wp2_with fail
          go_loopw [51] (fun i wr => ∃ t : Nat, t ≤ 8 ∧ i = .int .i64 t ∧ InitSt wr B cb mb n t ∧ Below w.heap.size w wr) (fun i _ => 8 - (intOf i).toNat)
          case atStart => exact ⟨0, by omega, rfl, hI, hBx⟩
          case round =>
            clear hI hBx
            obtain ⟨t, ht, rfl, hI, hBx⟩ := hrel
            by_cases ht8 : t < 8
            · have ht8I : (t : Int) < 8 := by omega
              have hat := (hI.run.alloc (.map #[] 0)).cell (runCells_at B t ht8)
              have haf := (hI.run.alloc (.map #[] 0)).free (2 + t)
              have hst := hI.step ht8 rfl
              rw [← hI.sz] at hst
              have hBy := fun v => ((((Only.refl (fun k => k = B + 4) wr).alloc (.map #[] 0)).setCell (a := ⟨B + 4, 2 + t, none⟩) (fun _ => rfl) v).below (B := w.heap.size) hBx.size (by intro k _ e; omega))
              replace hst := Lib.hid hst
              replace hBy := Lib.hid (fun v => hBx.trans (hBy v))
              clear hI
              go_wp2_with fail
              go_roundw
              case rel => exact ⟨t + 1, by omega, by go_num, hst.out, hBy.out _⟩
              case measure => simp [intOf]; omega
            · obtain rfl : t = 8 := by omega
              have hR := hI.run0 h1 h2
              clear hI ht8
              go_wp2_with fail
              go_loopw [63] (fun i wr => ∃ k : Nat, k ≤ es.length ∧ i = .int .i64 k ∧ RunSt wr B cb mb k (runP n (es.take k)) ∧ Below w.heap.size w wr) (fun i _ => es.length - (intOf i).toNat)
              case atStart => exact ⟨0, by omega, rfl, hR, hBx⟩
              case round =>
                clear hR hBx
                obtain ⟨k, hk, rfl, hR, hB⟩ := hrel
                by_cases hlt : k < es.length
                · have he := get_of_lt ⟨0, 0, 0, 0, 0, 0, 0, .int .i64 0⟩ hlt
                  have hge := hg _ (List.mem_of_getElem? he)
                  have htk : es.take (k + 1) = es.take k ++ [es.getD k ⟨0, 0, 0, 0, 0, 0, 0, .int .i64 0⟩] := take_getD es k _ hlt
                  have hsucc := runP_snoc n (es.take k) (es.getD k ⟨0, 0, 0, 0, 0, 0, 0, .int .i64 0⟩)
                  rw [← htk] at hsucc
                  clear htk
                  generalize es.getD k ⟨0, 0, 0, 0, 0, 0, 0, .int .i64 0⟩ = e at *
                  obtain ⟨bl, ol, cl, ea, fa⟩ := (hr.kept hB).cells (by omega)
                  simp only [Value.slice.injEq, true_and] at ea
                  obtain ⟨rfl, hcap⟩ := ea
                  replace hcap := Lib.hid hcap
                  have c0 : wr.cell? ⟨bl, ol + k * 8, none⟩ = _ := fa _ _ (evCells_get es k e he 0 _ rfl)
                  have c1 : wr.cell? ⟨bl, ol + k * 8 + 1, none⟩ = _ := fa _ _ (evCells_get es k e he 1 _ rfl)
                  have c2 : wr.cell? ⟨bl, ol + k * 8 + 2, none⟩ = _ := fa _ _ (evCells_get es k e he 2 _ rfl)
                  have c3 : wr.cell? ⟨bl, ol + k * 8 + 3, none⟩ = _ := fa _ _ (evCells_get es k e he 3 _ rfl)
                  have c4 : wr.cell? ⟨bl, ol + k * 8 + 4, none⟩ = _ := fa _ _ (evCells_get es k e he 4 _ rfl)
                  have c5 : wr.cell? ⟨bl, ol + k * 8 + 5, none⟩ = _ := fa _ _ (evCells_get es k e he 5 _ rfl)
                  have c6 : wr.cell? ⟨bl, ol + k * 8 + 6, none⟩ = _ := fa _ _ (evCells_get es k e he 6 _ rfl)
                  have c7 : wr.cell? ⟨bl, ol + k * 8 + 7, none⟩ = _ := fa _ _ (evCells_get es k e he 7 _ rfl)
                  have hex := fun o => exec_any B cb mb k e (runP n (es.take k)) (wr.alloc o) (hR.alloc o) (by omega) hge.fit hge.z
                  rw [← hsucc] at hex
                  obtain ⟨ca, cl2, cc, hch, hv⟩ := hge.ch
                  obtain ⟨kk, t, off, val, old, line, en, ch⟩ := e
                  simp only at hch c0 c1 c2 c3 c4 c5 c6 c7 hex
                  subst hch
                  replace hex := Lib.hid hex
                  replace hsucc := Lib.hid hsucc
                  replace he := Lib.hid he
                  have hlI : (k : Int) < es.length := by omega
                  have hRs := hR.size
                  have hBs := hB.size
                  clear fa hv hge
                  go_wp2_with fail
                  refine (hex.out _).mono ?_
                  rintro e' w1 ⟨rfl, hR1, hB1⟩
                  have hBn : Below w.heap.size w w1 := (hB.alloc hBs _).trans (hB1.mono hsB)
                  clear c0 c1 c2 c3 c4 c5 c6 c7 hex
                  go_wp2_with fail
                  go_roundw
                  case rel => (repeat apply Exists.intro); exact ⟨⟨k + 1, by omega, by go_num, hR1, hBn⟩, rfl⟩
                  case measure => simp [intOf]; omega
                · obtain rfl : k = es.length := by omega
                  rw [List.take_of_length_le (Nat.le_refl _)] at hR
                  have hgx := hR.graph
                  clear hR
                  go_wp2_with fail
                  rw [← hpost.out]
                  exact ⟨B + 2, rfl, hgx, hB⟩
end Go.Proofs.Ytjmdibgncaljaaa
