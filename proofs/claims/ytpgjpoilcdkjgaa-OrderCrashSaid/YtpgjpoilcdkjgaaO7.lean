/- The run of a script in memory: graph, current words, notes. Plain step functions. -/
import Derived.Test.YtpgjpoilcdkjgaaO4
import Derived.Maps.Own
import Derived.Maps.OwnOps
import Derived.Maps.RangeWalk
import Derived.Deep.RegionHeld3
import Derived.Deep.AppendLies
namespace Go.Proofs.Ytpgjpoilcdkjgaa
open Go.RowKit Go.Maps

/-- A run as data. -/
structure Rn where
  G : Gr
  cur : Nat → Nat
  note : Nat → Nat → Option Nat

theorem key42 : Keyed Try.prog 42 := int_keyed Try.underlying42
theorem key3 : Keyed Try.prog 3 := int_keyed Try.underlying3
theorem zero42 (w : World) : (zeroValue 42).run Try.prog w = .ok (.int .u64 0) w := by kernel_rfl
theorem info59 : (Try.prog.info? 59).map (fun i => (i.zero, i.size, i.bytes)) = some (some (.agg #[.int .u64 0, .int .u64 0]), 2, 16) := by kernel_rfl

/-- Block b is the map of the current words. -/
def CurV (w : World) (b T : Nat) (cur : Nat → Nat) : Prop :=
  ∃ D : DataW Unit, w.ownsMap Try.prog 42 (plainElem Try.prog 42) b T D ∧ IsMap D ∧ ∀ k : Nat, k < 18446744073709551616 → D.atKey (.int .u64 k) (.lit (.int .u64 0)) = .lit (.int .u64 (cur k : Int))
/-- Block b is the map of a thread's notes. -/
def NoteV (w : World) (b T n : Nat) (f : Nat → Option Nat) : Prop :=
  ∃ D : DataW Unit, w.ownsMap Try.prog 3 (plainElem Try.prog 3) b T D ∧ IsMap D ∧ (∀ kl : Lit, has D kl = true → ∃ k : Nat, k < n ∧ kl = .int .i64 k) ∧
    (∀ k : Nat, has D (.int .i64 k) = (f k).isSome) ∧ ∀ k c : Nat, f k = some c → ∀ z, D.atKey (.int .i64 k) z = .lit (.int .i64 c)

structure Rn.Ok (R : Rn) (T : Nat) : Prop where
  t : T ≤ 20000
  n1 : 1 ≤ R.G.n
  n2 : R.G.n ≤ 4096
  wl : R.G.ws.length ≤ T
  rl : R.G.rk.length = R.G.ws.length
  cl : R.G.ct.length = R.G.n
  ml : R.G.md.length = R.G.n
  off : ∀ p ∈ R.G.ws, p.1 < 64 * R.G.n ∧ p.2 < 18446744073709551616
  al : ∀ p ∈ R.G.ws, p.1 % 8 = 0
  rb : ∀ r ∈ R.G.rk, r ≤ T
  cb : ∀ c ∈ R.G.ct, c ≤ T
  mc : ∀ k, R.G.md.getD k 0 ≤ R.G.ct.getD k 0
  cu : ∀ k, R.cur k < 18446744073709551616
  no : ∀ t k c, R.note t k = some c → k < R.G.n ∧ c ≤ R.G.ct.getD k 0

structure RunSt (w : World) (B cb mb T : Nat) (R : Rn) : Prop where
  ok : R.Ok T
  cm : cb + mb = 2 * B + 1 ∧ B ≤ cb ∧ B ≤ mb
  rb : Has w (B + 4) [.pointer (some ⟨B + 2, 0, none⟩), .map (some (B + 3)), .map (some (B + 5)), .map (some (B + 6)), .map (some (B + 7)), .map (some (B + 8)), .map (some (B + 9)), .map (some (B + 10)), .map (some (B + 11)), .map (some (B + 12))] 96
  ex : ∃ wa wc ra rc, Has w (B + 2) [.int .i64 (R.G.n : Int), .slice wa R.G.ws.length wc, .slice ra R.G.ws.length rc, .slice (some ⟨cb, 0, none⟩) R.G.n R.G.n, .slice (some ⟨mb, 0, none⟩) R.G.n R.G.n] 90 ∧
    w.ownsRow 0 59 2 (.slice wa R.G.ws.length wc) R.G.ws.length (wcells R.G.ws) ∧ w.ownsRow 0 3 1 (.slice ra R.G.ws.length rc) R.G.ws.length (nats R.G.rk) ∧
    (∀ k, Value.ownBlock (.slice wa R.G.ws.length wc) = some k → B + 13 ≤ k) ∧ (∀ k, Value.ownBlock (.slice ra R.G.ws.length rc) = some k → B + 13 ≤ k) ∧
    ∀ k, Value.ownBlock (.slice wa R.G.ws.length wc) = some k → Value.ownBlock (.slice ra R.G.ws.length rc) ≠ some k
  ct : Has w cb (nats R.G.ct) 3
  md : Has w mb (nats R.G.md) 3
  cv : CurV w (B + 3) T R.cur
  nv : ∀ t, t < 8 → NoteV w (B + 5 + t) T R.G.n (R.note t)

theorem CurV.only {S : Nat → Prop} {w w' : World} {b T : Nat} {cur : Nat → Nat} (h : CurV w b T cur) (ho : Only S w w') (hs : ¬ S b) : CurV w' b T cur := by
  obtain ⟨D, h1, h2⟩ := h
  obtain ⟨es, cl, hb, r⟩ := h1
  exact ⟨D, ⟨es, cl, (ho.block b (heap_lt hb) hs).trans hb, r⟩, h2⟩
theorem NoteV.only {S : Nat → Prop} {w w' : World} {b T n : Nat} {f : Nat → Option Nat} (h : NoteV w b T n f) (ho : Only S w w') (hs : ¬ S b) : NoteV w' b T n f := by
  obtain ⟨D, h1, h2⟩ := h
  obtain ⟨es, cl, hb, r⟩ := h1
  exact ⟨D, ⟨es, cl, (ho.block b (heap_lt hb) hs).trans hb, r⟩, h2⟩
theorem CurV.up {w : World} {b T T' : Nat} {cur : Nat → Nat} (h : CurV w b T cur) (ht : T ≤ T') : CurV w b T' cur := by
  obtain ⟨D, h1, h2⟩ := h; exact ⟨D, h1.mono ht, h2⟩
theorem NoteV.up {w : World} {b T T' n : Nat} {f : Nat → Option Nat} (h : NoteV w b T n f) (ht : T ≤ T') : NoteV w b T' n f := by
  obtain ⟨D, h1, h2⟩ := h; exact ⟨D, h1.mono ht, h2⟩

def storeP (R : Rn) (off v : Nat) : Rn :=
  { R with
    G := { R.G with ws := R.G.ws ++ [(off, v)], rk := R.G.rk ++ [R.G.ct.getD (off / 64) 0], ct := R.G.ct.set (off / 64) (R.G.ct.getD (off / 64) 0 + 1) }
    cur := fun k => if k = off then v else R.cur k }

theorem storeP_ok {R : Rn} {T : Nat} (h : R.Ok T) (hT : T + 1 ≤ 20000) {off v : Nat} (ho : off < 64 * R.G.n) (ha : off % 8 = 0) (hv : v < 18446744073709551616) : (storeP R off v).Ok (T + 1) := by
  have hl : off / 64 < R.G.ct.length := by rw [h.cl]; omega
  have hcl : R.G.ct.getD (off / 64) 0 ≤ T := h.cb _ (mem_getD 0 hl)
  have hget : ∀ k, (R.G.ct.set (off / 64) (R.G.ct.getD (off / 64) 0 + 1)).getD k 0 = if k = off / 64 then R.G.ct.getD (off / 64) 0 + 1 else R.G.ct.getD k 0 := by
    intro k
    by_cases hk : k = off / 64
    · subst hk; rw [if_pos rfl, List.getD, List.getElem?_set_self hl]; rfl
    · rw [if_neg hk, List.getD, List.getElem?_set_ne (Ne.symm hk)]; rfl
  refine ⟨hT, h.n1, h.n2, ?_, ?_, ?_, h.ml, ?_, ?_, ?_, ?_, ?_, ?_, ?_⟩
  · have := h.wl; simp [storeP]; omega
  · have := h.rl; simp [storeP]; omega
  · simpa [storeP] using h.cl
  · intro p hp
    simp only [storeP, List.mem_append, List.mem_singleton] at hp
    rcases hp with hp | rfl
    · exact h.off p hp
    · exact ⟨ho, hv⟩
  · intro p hp
    simp only [storeP, List.mem_append, List.mem_singleton] at hp
    rcases hp with hp | rfl
    · exact h.al p hp
    · exact ha
  · intro r hr
    simp only [storeP, List.mem_append, List.mem_singleton] at hr
    rcases hr with hr | rfl
    · have := h.rb r hr; omega
    · omega
  · exact mem_set_le h.cb (by omega)
  · intro k
    show R.G.md.getD k 0 ≤ (R.G.ct.set _ _).getD k 0
    rw [hget]
    have := h.mc k
    split
    · subst_vars; omega
    · exact this
  · intro k
    show (if k = off then v else R.cur k) < _
    split
    · exact hv
    · exact h.cu k
  · intro t k c hc
    obtain ⟨h1, h2⟩ := h.no t k c hc
    refine ⟨h1, ?_⟩
    show c ≤ (R.G.ct.set _ _).getD k 0
    rw [hget]
    split
    · subst_vars; omega
    · exact h2
end Go.Proofs.Ytpgjpoilcdkjgaa
