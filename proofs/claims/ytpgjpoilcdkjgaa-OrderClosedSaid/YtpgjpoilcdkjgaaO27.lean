/- Append of all of a slice; slices.Contains; the walk of OrderGrows. -/
import Derived.Test.YtpgjpoilcdkjgaaO26
import Derived.Test.YtpgjpoilcdkjgaaQ3
import Derived.Deep.Upon
namespace Go.Proofs.Ytpgjpoilcdkjgaa
open Go.RowKit

theorem wpList_appAll {P : Program} {w : World} {ops : Array Oper} {rest : List Oper} {o : Oper} {a : Act} {Q : Exit → Act → World → Prop} (hgd : o.guard = none) (s x : Operand) (t : TypeId)
    (ho : o.op = .call { callee := .builtin .append, args := #[s, x], argTypes := #[t, t] })
    (e : TypeId) (z : Value) (size bytes : Nat) (ht : P.underlying t = some (.slice e))
    (hi : (P.info? e).map (fun i => (i.zero, i.size, i.bytes)) = some (some z, size, bytes)) (hzs : z.cells.size = size) (hsz : 0 < size) (hby : 0 < bytes)
    (sa : Option Addr) (n cap : Nat) (hcap : n ≤ cap) (xs : List Value) (hown : w.ownsRow 0 e size (.slice sa n cap) n xs) (hs : a.eval s = .slice sa n cap)
    (xa : Option Addr) (m c : Nat) (news : List Value) (hx : a.eval x = .slice xa m c) (hrd : Rd w (.slice xa m c) m news) (hl : news.length = m * size) (h1 : ∀ u ∈ news, u.oneCell' = true)
    (hbytes : (n + m) * bytes ≤ 140737488355328)
    (h : ∀ sa' cap' w', n + m ≤ cap' → w'.ownsRow 0 e size (.slice sa' (n + m) cap') (n + m) (xs ++ news) → Only (fun k => Value.ownBlock (.slice sa n cap) = some k) w w' →
      (∀ k, Value.ownBlock (.slice sa' (n + m) cap') = some k → Value.ownBlock (.slice sa n cap) = some k ∨ w.heap.size ≤ k) → wpList P ops Q rest (a.put o.dst (.slice sa' (n + m) cap')) w') :
    wpList P ops Q (o :: rest) a w := by
  obtain ⟨xa', c', hxe, hrd⟩ := hrd
  simp only [Value.slice.injEq, true_and] at hxe
  obtain ⟨rfl, rfl⟩ := hxe
  have capok : ∀ sa' cap' (w' : World) ys, w'.ownsRow 0 e size (.slice sa' (n + m) cap') (n + m) ys → n + m ≤ cap' := by
    intro sa' cap' w' ys ho
    rcases ho.2 with ⟨h1, h2⟩ | ⟨g, cap2, cur, h1, _, _, h2, _⟩
    · omega
    · simp only [Value.slice.injEq] at h1
      obtain ⟨_, _, rfl⟩ := h1
      exact h2
  cases xa with
  | none =>
    have hm : m = 0 ∧ news = [] := by
      rcases hrd with h0 | ⟨b, off, h0, _⟩
      · exact h0
      · cases h0
    obtain ⟨rfl, rfl⟩ := hm
    refine wpList_plain hgd fun K hK => ?_
    obtain ⟨i, hi2, hz, hsize, hbb⟩ := info_parts hi
    have hr := run_append_nothing (P := P) w t t o.type e i ht hi2 sa n cap hcap (.slice none 0 c) (Src.ofNil w ht c)
    unfold Oper.wp execOp
    simp only [ho, resolve, invoke, builtin, Sem.run_bind, Sem.run_pure, Result.andThen_ok, List.map_toArray, List.map_cons, List.map_nil, hs, hx, hr]
    exact hK _ _ (h sa cap w hcap (by simpa using hown) (Only.refl _ w) (fun k hk => .inl hk))
  | some ad =>
    have hnews : ∀ j u, news[j]? = some u → w.cell? (ad.add j) = some u := by
      rcases hrd with ⟨_, h0⟩ | ⟨b, off, h0, hc⟩
      · subst h0; intro j u hj; simp at hj
      · simp only [Option.some.injEq] at h0
        subst h0
        intro j u hj
        have := hc j u hj
        unfold Addr.add
        split
        · simp_all
        · simpa using this
    exact wpList_app hgd s x t ho e z size bytes ht hi hzs hsz hby sa n cap xs hown hs ad m c news hx hl hnews h1 hbytes (fun sa' cap' w' q1 q2 q3 => h sa' cap' w' (capok sa' cap' w' _ q1) q1 q2 q3)
theorem contains_nats (va : Value) (xs : List Nat) (x : Int) (w : World) (ha : Rd w va xs.length (nats xs)) (hx : xs.length ≤ 9223372036854775807) :
    Calls Try.prog 34 #[va, .int .i64 x] w fun e w' => e = .returned (.bool ((natsI xs).contains x)) ∧ w = w' := by
  rw [nats_natsI] at ha
  have hl := natsI_len xs
  obtain ⟨a, ca, rfl, ha⟩ := ha
  by_cases h0 : xs.length = 0
  · obtain rfl : xs = [] := List.eq_nil_of_length_eq_zero h0
    refine (Try.slices_Contains_int_empty a ca x w).mono ?_
    rintro e w' ⟨rfl, rfl⟩
    exact ⟨rfl, rfl⟩
  · rcases ha with ⟨h, _⟩ | ⟨b1, o1, rfl, ha⟩
    · omega
    refine (Try.slices_Contains_int b1 o1 xs.length ca (natsI xs) x w (by omega) hx (ints_cell ha)).mono ?_
    rintro e w' ⟨rfl, rfl⟩
    rw [List.take_of_length_le (by omega)]
    exact ⟨rfl, rfl⟩
theorem evCells_one (es : List Ev) (h : ∀ e ∈ es, e.Good) : ∀ u ∈ evCells es, u.oneCell' = true := by
  intro u hu
  unfold evCells at hu
  rw [List.mem_flatMap] at hu
  obtain ⟨e, he, hu⟩ := hu
  obtain ⟨ca, cl, cc, hch, _⟩ := (h e he).ch
  unfold Ev.cells at hu
  rw [hch] at hu
  simp only [List.mem_cons, List.not_mem_nil, or_false] at hu
  rcases hu with rfl | rfl | rfl | rfl | rfl | rfl | rfl | rfl <;> rfl
theorem evCells_app (a b : List Ev) : evCells (a ++ b) = evCells a ++ evCells b := by simp [evCells]

/-- Two graphs in memory. -/
structure Two (w : World) (g h : Nat) (G H : Gr) (wr : World) : Prop where
  g : GraphSt wr g G
  h : GraphSt wr h H
  b : Below w.heap.size w wr
theorem Two.below {w wr w' : World} {g h : Nat} {G H : Gr} (t : Two w g h G H wr) (hb : Below wr.heap.size wr w') : Two w g h G H w' := ⟨t.g.kept hb, t.h.kept hb, t.b.trans (hb.mono t.b.size)⟩
theorem Two.drewN {w wr w' : World} {g h m : Nat} {G H : Gr} (t : Two w g h G H wr) (e : wr.drewN m = w') : Two w g h G H w' := t.below (e ▸ below_drewN (Below.refl _ _) m)
end Go.Proofs.Ytpgjpoilcdkjgaa
