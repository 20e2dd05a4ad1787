/- The graph in memory, and contracts of its small readers: lineOf, Lines, Stores, has, must, cut, Mandatory, Before. -/
import Derived.Test.YtjmdibgncaljaaaRows
import Derived.Test.YtjmdibgncaljaaaHeap
import Derived.BigRegion
import Derived.BigQuiet
import Derived.Deep.QuietTactic
namespace Go.Proofs.Ytjmdibgncaljaaa
open Go.RowKit

/-- A graph as data: how many lines; the stores (offset, value); of each its rank in its line; of each line how many stores, and how many first ones are mandatory. -/
structure Gr where
  n : Nat
  ws : List (Nat × Nat)
  rk : List Nat
  ct : List Nat
  md : List Nat
structure Gr.Ok (G : Gr) : Prop where
  n1 : 1 ≤ G.n
  n2 : G.n ≤ 4096
  wl : G.ws.length ≤ 20000
  rl : G.rk.length = G.ws.length
  cl : G.ct.length = G.n
  ml : G.md.length = G.n
  off : ∀ p ∈ G.ws, p.1 < 64 * G.n ∧ p.2 < 18446744073709551616
  rb : ∀ r ∈ G.rk, r ≤ 20000
  cb : ∀ c ∈ G.ct, c ≤ 20000
  mb : ∀ m ∈ G.md, m ≤ 20000
  mc : ∀ k, G.md.getD k 0 ≤ G.ct.getD k 0
  al : ∀ p ∈ G.ws, p.1 % 8 = 0

def wcells (ws : List (Nat × Nat)) : List Value := ws.flatMap fun p => [.int .u64 p.1, .int .u64 p.2]
theorem wcells_get : ∀ (ws : List (Nat × Nat)) (i : Nat) (p : Nat × Nat), ws[i]? = some p → (wcells ws)[i * 2]? = some (.int .u64 p.1) ∧ (wcells ws)[i * 2 + 1]? = some (.int .u64 p.2)
  | q :: ws, 0, p, h => by simp at h; subst h; exact ⟨rfl, rfl⟩
  | q :: ws, i + 1, p, h => by
    have := wcells_get ws i p (by simpa using h)
    have e1 : (i + 1) * 2 = i * 2 + 2 := by omega
    rw [e1]
    exact this
  | [], _, _, h => by simp at h
def nats (l : List Nat) : List Value := l.map fun (n : Nat) => .int .i64 (n : Int)
theorem nats_get (l : List Nat) (i : Nat) (n : Nat) (h : l[i]? = some n) : (nats l)[i]? = some (.int .i64 (n : Int)) := by simp [nats, h]

structure GraphSt (w : World) (g : Nat) (G : Gr) : Prop where
  ok : G.Ok
  ex : ∃ wa wc ra rc ca ma, Has w g [.int .i64 (G.n : Int), .slice wa G.ws.length wc, .slice ra G.ws.length rc, .slice ca G.n G.n, .slice ma G.n G.n] 106 ∧
    Rd w (.slice wa G.ws.length wc) G.ws.length (wcells G.ws) ∧ Rd w (.slice ra G.ws.length rc) G.ws.length (nats G.rk) ∧ Rd w (.slice ca G.n G.n) G.n (nats G.ct) ∧ Rd w (.slice ma G.n G.n) G.n (nats G.md)
theorem GraphSt.kept {w w' : World} {g : Nat} {G : Gr} (h : GraphSt w g G) (ho : Below w.heap.size w w') : GraphSt w' g G := by
  obtain ⟨wa, wc, ra, rc, ca, ma, h1, h2, h3, h4, h5⟩ := h.ex
  exact ⟨h.ok, wa, wc, ra, rc, ca, ma, h1.only (Only.of_below ho) (by have := h1.lt; omega), h2.kept ho, h3.kept ho, h4.kept ho, h5.kept ho⟩

theorem lineOf_any (off : Nat) (w : World) (h : off < 18446744073709551616) : Calls Try.prog 83 #[.int .u64 off] w fun e w' => e = .returned (.int .i64 ((off / 64 : Nat) : Int)) ∧ w = w' := by
  go_enter Try.func83, Try.ntmps83
  go_wp2
  go_ret
  exact ⟨rfl, rfl⟩

theorem stores_any (g : Nat) (G : Gr) (w : World) (h : GraphSt w g G) : Calls Try.prog 9 #[.pointer (some ⟨g, 0, none⟩)] w fun e w' => e = .returned (.int .i64 (G.ws.length : Int)) ∧ w = w' := by
  obtain ⟨wa, wc, ra, rc, ca, ma, h1, h2, h3, h4, h5⟩ := h.ex
  have c0 := h1.cell (o := 1) rfl
  go_enter Try.func9, Try.ntmps9
  go_wp2
  go_ret
  exact ⟨rfl, rfl⟩
theorem has_any (g : Nat) (G : Gr) (i : Int) (w : World) (h : GraphSt w g G) : Calls Try.prog 93 #[.pointer (some ⟨g, 0, none⟩), .int .i64 i] w fun e w' => e = .returned (.bool (decide (0 ≤ i ∧ i < (G.ws.length : Int)))) ∧ w = w' := by
  by_cases h0 : 0 ≤ i
  · have e : decide (0 ≤ i ∧ i < (G.ws.length : Int)) = decide (i < (G.ws.length : Int)) := by simp [h0]
    rw [e]
    go_enter Try.func93, Try.ntmps93
    go_wp2_with (go_at_call 9; refine (stores_any g G _ h).mono ?_; rintro e w' ⟨rfl, rfl⟩)
    go_ret
    exact ⟨rfl, rfl⟩
  · have e : decide (0 ≤ i ∧ i < (G.ws.length : Int)) = false := by simp [h0]
    rw [e]
    go_enter Try.func93, Try.ntmps93
    go_wp2_with fail
    go_ret
    exact ⟨rfl, rfl⟩

theorem lineOf_q (off : Nat) (w : World) (h : off < 18446744073709551616) : Calls Try.prog 83 #[.int .u64 off] w fun e w' => e = .returned (.int .i64 ((off / 64 : Nat) : Int)) ∧ w' = w :=
  (lineOf_any off w h).mono fun _ _ ⟨h1, h2⟩ => ⟨h1, h2.symm⟩

/-- The line of store i. -/
def Gr.line (G : Gr) (i : Nat) : Nat := (G.ws.getD i (0, 0)).1 / 64
def Gr.must (G : Gr) (i : Nat) : Bool := decide (G.rk.getD i 0 < G.md.getD (G.line i) 0)
theorem get_of_lt {α : Type} {xs : List α} {i : Nat} (d : α) (h : i < xs.length) : xs[i]? = some (xs.getD i d) := by
  rw [List.getD, List.getElem?_eq_getElem h]; rfl
theorem Gr.Ok.line_lt {G : Gr} (h : G.Ok) {i : Nat} (hi : i < G.ws.length) : G.line i < G.n ∧ (G.ws.getD i (0, 0)).1 < 18446744073709551616 := by
  have hm : G.ws.getD i (0, 0) ∈ G.ws := List.mem_of_getElem? (get_of_lt (0, 0) hi)
  obtain ⟨h1, _⟩ := h.off _ hm
  have := h.n2
  unfold Gr.line
  omega
theorem mem_getD {α : Type} {xs : List α} {i : Nat} (d : α) (h : i < xs.length) : xs.getD i d ∈ xs := List.mem_of_getElem? (get_of_lt d h)

end Go.Proofs.Ytjmdibgncaljaaa
