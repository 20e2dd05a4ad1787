/- Contracts of cut, Mandatory, Before. -/
import Derived.Test.YtjmdibgncaljaaaO1
namespace Go.Proofs.Ytjmdibgncaljaaa
open Go.RowKit

theorem info3 : (Try.prog.info? 3).map (fun i => (i.zero, i.size, i.bytes)) = some (some (.int .i64 0), 1, 8) := by kernel_rfl

/-- The first k stores: those whose rank is below the number taken of their line. -/
def cutK (G : Gr) (taken : List Nat) (k : Nat) : List Nat := (List.range k).filter fun i => decide (G.rk.getD i 0 < taken.getD (G.line i) 0)
def cutL (G : Gr) (taken : List Nat) : List Nat := cutK G taken G.ws.length
theorem cutK_succ (G : Gr) (taken : List Nat) (k : Nat) : cutK G taken (k + 1) = cutK G taken k ++ if G.rk.getD k 0 < taken.getD (G.line k) 0 then [k] else [] := by
  unfold cutK
  rw [List.range_succ, List.filter_append]
  congr 1
  by_cases h : G.rk.getD k 0 < taken.getD (G.line k) 0
  · rw [if_pos h, List.filter_cons, if_pos (decide_eq_true h)]; rfl
  · rw [if_neg h, List.filter_cons, if_neg (by simpa using h)]; rfl
theorem cutK_le (G : Gr) (taken : List Nat) (k : Nat) : (cutK G taken k).length ≤ k := by
  unfold cutK; have := List.length_filter_le (fun i => decide (G.rk.getD i 0 < taken.getD (G.line i) 0)) (List.range k); simpa using this

/-- A slice of numbers of the call's own. -/
def NewNats (w : World) (l : List Nat) (e : Ending) (w' : World) : Prop :=
  ∃ sa cap, e = .returned (.slice sa l.length cap) ∧ w'.ownsRow 0 3 1 (.slice sa l.length cap) l.length (nats l) ∧ Below w.heap.size w w' ∧ (∀ k, Value.ownBlock (.slice sa l.length cap) = some k → w.heap.size ≤ k)

set_option maxHeartbeats 2000000 in
theorem cut_any (g : Nat) (G : Gr) (ta : Option Addr) (tc : Nat) (taken : List Nat) (w : World) (h : GraphSt w g G) (ht : Rd w (.slice ta G.n tc) G.n (nats taken)) (htl : taken.length = G.n) (htb : ∀ t ∈ taken, t ≤ 20000) :
    Calls Try.prog 54 #[.pointer (some ⟨g, 0, none⟩), .slice ta G.n tc] w (NewNats w (cutL G taken)) := by
  generalize hpost : NewNats w (cutL G taken) = post
  have Hpost := Lib.hid hpost
  clear hpost
  have ok := h.ok
  obtain ⟨wa, wc, ra, rc, ca, ma, h1, h2, h3, h4, h5⟩ := h.ex
  have hn2 := ok.n2
  have hwl := ok.wl
  have hn1 := ok.n1
  obtain ⟨bt, ot, ct, et, ft⟩ := ht.cells ok.n1
  simp only [Value.slice.injEq, true_and] at et
  obtain ⟨rfl, hct⟩ := et
  replace hct := Lib.hid hct
  have c1 := (h1.alloc (.cells #[] 3)).cell (o := 1) rfl
  have hE := World.ownsRow_lit w #[] 0 (base := 0) (e := 3) (size := 1) (Nat.zero_le _) (by decide) rfl
  have hB0 : Below w.heap.size w (w.alloc (.cells #[] 3)) := (Below.refl _ _).alloc (Nat.le_refl _) _
  have hcl := fun k => cutK_le G taken k
  go_enter Try.func54, Try.ntmps54
  go_wp2_with fail
  go_loopw [5, 14] (fun v i wr => ∃ (k : Nat) (sa : Option Addr) (cap : Nat), k ≤ G.ws.length ∧ i = .int .i64 k ∧ v = .slice sa (cutK G taken k).length cap ∧ wr.ownsRow 0 3 1 (.slice sa (cutK G taken k).length cap) (cutK G taken k).length (nats (cutK G taken k)) ∧
      Below w.heap.size w wr ∧ (∀ j, Value.ownBlock (.slice sa (cutK G taken k).length cap) = some j → w.heap.size ≤ j)) (fun _ i _ => G.ws.length - (intOf i).toNat)
  case atStart => exact ⟨0, some ⟨w.heap.size, 0, none⟩, 0, Nat.zero_le _, rfl, rfl, hE, hB0, fun j hj => by simp [Value.ownBlock] at hj; omega⟩
  case round =>
    clear hE hB0 c1
    obtain ⟨k, sa, cap, hk, rfl, rfl, hown, hB, hob⟩ := hrel
    have hlk := hcl k
    have hsz := hB.size
    by_cases hlt : k < G.ws.length
    · obtain ⟨hl, ho⟩ := ok.line_lt hlt
      obtain ⟨bw, ow, cw, e2, f2⟩ := (h2.kept hB).cells (by omega)
      obtain ⟨br, or, cr, e3, f3⟩ := (h3.kept hB).cells (by omega)
      simp only [Value.slice.injEq, true_and] at e2 e3
      obtain ⟨rfl, rfl⟩ := e2
      obtain ⟨rfl, rfl⟩ := e3
      obtain ⟨hw0, hw1⟩ := wcells_get G.ws k _ (get_of_lt (0, 0) hlt)
      have w0 := f2 _ _ hw0
      have w1 : wr.cell? ⟨bw, ow + k * 2 + 1, none⟩ = _ := f2 _ _ hw1
      have hr := f3 k _ (nats_get G.rk k _ (get_of_lt 0 (by rw [ok.rl]; exact hlt)))
      have hm0 := ft (G.line k) _ (nats_get taken (G.line k) _ (get_of_lt 0 (by rw [htl]; exact hl)))
      have hm := (hB.cell (p := ⟨bt, ot + G.line k, none⟩) (by simpa using World.block_lt_of_cell? _ _ hm0)).trans hm0
      have hrb := ok.rb _ (mem_getD 0 (by rw [ok.rl]; exact hlt))
      have hmb := htb _ (mem_getD 0 (by rw [htl]; exact hl) : taken.getD (G.line k) 0 ∈ taken)
      have hsucc := cutK_succ G taken k
      have hline : G.line k = (G.ws.getD k (0, 0)).1 / 64 := rfl
      rw [hline] at hm hl hmb hsucc
      generalize (G.ws.getD k (0, 0)).2 = val at *
      generalize (G.ws.getD k (0, 0)).1 = off at *
      generalize taken.getD (off / 64) 0 = mv at *
      generalize G.rk.getD k 0 = rv at *
      have g2 := (h1.only (Only.of_below hB) (by have := h1.lt; omega)).cell (o := 2) rfl
      have W2 : Below wr.heap.size wr (wr.alloc (.cells #[.int .u64 off, .int .u64 val] 133)) := (Below.refl _ _).alloc (Nat.le_refl _) _
      have bx := (Has.new wr [.int .u64 off, .int .u64 val] 133).cell (o := 0) rfl
      have hr2 := (W2.cell (p := ⟨br, or + k, none⟩) (by simpa using World.block_lt_of_cell? _ _ hr)).trans hr
      have hm2 := (W2.cell (p := ⟨bt, ot + off / 64, none⟩) (by simpa using World.block_lt_of_cell? _ _ hm)).trans hm
      have gg2 := (W2.cell (p := ⟨g, 2, none⟩) (by simpa using World.block_lt_of_cell? _ _ g2)).trans g2
      have own2 := hown.alloc (.cells #[.int .u64 off, .int .u64 val] 133)
      have hBa := hB.alloc hsz (.cells #[.int .u64 off, .int .u64 val] 133)
      have hil : (k : Int) < G.ws.length := by omega
      have hol : ((off / 64 : Nat) : Int) < (G.n : Int) := by omega
      clear hline f2 f3 hw0 hw1 hr hm hm0 g2 hown W2
      go_wp2_with fail
      have hsz2 : wr.heap.size < (wr.alloc (.cells #[.int .u64 off, .int .u64 val] 133)).heap.size := by simp
      generalize wr.alloc (.cells #[.int .u64 off, .int .u64 val] 133) = w2 at *
      clear w0 w1
      go_quiet ((go_at_call 83; exact Calls.quiet_of_same (lineOf_q off _ ho)))
      by_cases hlt2 : rv < mv
      · rw [if_pos hlt2] at hsucc
        replace hsucc := Lib.hid hsucc
        have own3 : (w2.drewN nq).ownsRow 0 3 1 (.slice sa (cutK G taken k).length cap) (cutK G taken k).length (nats (cutK G taken k)) := own2
        generalize cutK G taken k = xs at *
        go_wp2_with (at_builtin; refine wpList_app1 rfl (.tmp 33) (.tmp 35) 49 rfl 3 (.int .i64 0) 8 Try.underlying49 info3 rfl (by decide) sa xs.length cap (nats xs) rfl (.int .i64 k) _ (w2.drewN nq) rfl rfl own3 _ rfl (by simp) rfl ?hby ?_)
        case hby => omega
        intro sa' cap' w3 own4 only4 fresh4
        go_wp2_with fail
        go_roundw
        case rel =>
          have e : (cutK G taken (k+1)).length = xs.length + 1 := by rw [hsucc.out]; simp
          refine ⟨k + 1, sa', cap', by omega, by go_num, by rw [e], ?_, (below_drewN hBa nq).trans (only4.below (B := w.heap.size) (by simp; omega) (fun j _ hj => hob j hj)), ?_⟩
          · rw [e, hsucc.out]; simpa [nats] using own4
          · rw [e]
            intro j hj
            rcases fresh4 j hj with h | h
            · exact hob j h
            · have : w2.heap.size ≤ j := by simpa using h
              omega
        case measure => simp [intOf]; omega
      · rw [if_neg hlt2, List.append_nil] at hsucc
        replace hsucc := Lib.hid hsucc
        go_wp2_with fail
        go_roundw
        case rel => exact ⟨k + 1, sa, cap, by omega, by go_num, by rw [hsucc.out], by rw [hsucc.out]; exact own2, below_drewN hBa nq, by rw [hsucc.out]; exact hob⟩
        case measure => simp [intOf]; omega
    · have : k = G.ws.length := by omega
      subst this
      go_wp2_with fail
      rw [← Hpost.out]
      exact ⟨sa, cap, rfl, hown, hB, hob⟩

/-- Before, as the program has it. -/
def Gr.before (G : Gr) (i j : Int) : Bool :=
  decide (0 ≤ i ∧ i < (G.ws.length : Int)) && decide (0 ≤ j ∧ j < (G.ws.length : Int)) && (G.must i.toNat || decide (i = j) || (decide (i < j) && decide (G.line i.toNat = G.line j.toNat)))

theorem has_at (g : Nat) (G : Gr) (i : Int) (b : Bool) (hb : decide (0 ≤ i ∧ i < (G.ws.length : Int)) = b) (w : World) (h : GraphSt w g G) : Calls Try.prog 93 #[.pointer (some ⟨g, 0, none⟩), .int .i64 i] w fun e w' => e = .returned (.bool b) ∧ w = w' := by
  subst hb; exact has_any g G i w h
theorem GraphSt.drewN {w : World} {g : Nat} {G : Gr} (h : GraphSt w g G) (m : Nat) : GraphSt (w.drewN m) g G := h.kept (below_drewN (Below.refl _ _) m)

theorem cell_drewN {w w1 : World} {m : Nat} {p : Addr} {v : Option Value} (h : w.drewN m = w1) (c : w.cell? p = v) : w1.cell? p = v := by
  subst h; simpa using c

end Go.Proofs.Ytjmdibgncaljaaa
