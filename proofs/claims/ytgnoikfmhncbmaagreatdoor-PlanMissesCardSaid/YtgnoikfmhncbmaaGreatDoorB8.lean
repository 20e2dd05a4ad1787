/- Walking a tree with a stack of one's own, plain: what lies on the stack, and what is done. What spanOf keeps in memory between two rounds. -/
import Derived.Test.YtgnoikfmhncbmaaGreatDoorB0
import Derived.Test.YtgnoikfmhncbmaaGreatDoorB6
set_option linter.unusedVariables false
set_option linter.unusedSimpArgs false
namespace Go.Proofs.YtgnoikfmhncbmaaGreatDoor
def AT.b : AT → Nat
  | .nil => 0
  | .node b _ _ _ _ _ => b
def AT.nil? : AT → Bool | .nil => true | _ => false
/-- One tree is a part of another. -/
def AT.Sub (s : AT) : AT → Prop
  | .nil => s = .nil
  | .node b op col v l r => s = .node b op col v l r ∨ s.Sub l ∨ s.Sub r
theorem AT.Sub.refl (t : AT) : t.Sub t := by cases t <;> simp [AT.Sub]
theorem AT.Sub.left {b op : Nat} {col : ByteArray} {v : RV} {l r : AT} : ∀ {t : AT}, (AT.node b op col v l r).Sub t → l.Sub t ∧ r.Sub t
  | .nil, h => by cases h
  | .node b' op' col' v' l' r', h => by
    rcases h with h | h | h
    · cases h
      exact ⟨.inr (.inl (AT.Sub.refl _)), .inr (.inr (AT.Sub.refl _))⟩
    · obtain ⟨h1, h2⟩ := AT.Sub.left h
      exact ⟨.inr (.inl h1), .inr (.inl h2)⟩
    · obtain ⟨h1, h2⟩ := AT.Sub.left h
      exact ⟨.inr (.inr h1), .inr (.inr h2)⟩
theorem AT.Sub.at {w : World} {s : AT} : ∀ {t : AT}, s.Sub t → t.At w → s.At w
  | .nil, h, _ => by
    have h : s = .nil := h
    rw [h]; trivial
  | .node b op col v l r, h, ⟨h1, h2, h3⟩ => by
    rcases h with h | h | h
    · rw [h]; exact ⟨h1, h2, h3⟩
    · exact AT.Sub.at h h2
    · exact AT.Sub.at h h3
theorem AT.Sub.addrs {s : AT} : ∀ {t : AT}, s.Sub t → ∀ a ∈ s.addrs, a ∈ t.addrs
  | .nil, h, a, ha => by
    have h : s = .nil := h
    rw [h] at ha; exact ha
  | .node b op col v l r, h, a, ha => by
    rcases h with h | h | h
    · rw [h] at ha; exact ha
    · simp [AT.addrs, AT.Sub.addrs h a ha]
    · simp [AT.addrs, AT.Sub.addrs h a ha]
theorem AT.Sub.fit {s : AT} : ∀ {t : AT}, s.Sub t → t.Fit → s.Fit
  | .nil, h, _ => by
    have h : s = .nil := h
    rw [h]; trivial
  | .node b op col v l r, h, ⟨h1, h2, h3, h4, h5, h6⟩ => by
    rcases h with h | h | h
    · rw [h]; exact ⟨h1, h2, h3, h4, h5, h6⟩
    · exact AT.Sub.fit h h5
    · exact AT.Sub.fit h h6
theorem AT.b_mem {t : AT} (h : t.nil? = false) : t.b ∈ t.addrs := by cases t <;> simp_all [AT.nil?, AT.b, AT.addrs]
theorem AT.ptr_b {t : AT} (h : t.nil? = false) : t.ptr = ptrV t.b := by cases t <;> simp_all [AT.nil?, AT.b, AT.ptr]
theorem AT.size_pos {t : AT} (h : t.nil? = false) : 1 ≤ t.size := by cases t <;> simp_all [AT.nil?, AT.size]
/-- What lies on the stack: a tree not yet looked at, or one that waits for its operands. -/
inductive It where
  | fr (t : AT)
  | wt (t : AT)
def It.tree : It → AT | .fr t => t | .wt t => t
def It.ads : It → List Nat | .fr t => t.addrs | .wt t => [t.b]
def It.wk : It → Nat | .fr t => 2 * t.size | .wt _ => 1
def flatI (its : List It) : List Nat := its.flatMap It.ads
def wkI (its : List It) : Nat := (its.map It.wk).sum
theorem It.b_ads {it : It} (h : it.tree.nil? = false) : it.tree.b ∈ it.ads := by
  cases it with
  | fr t => exact AT.b_mem h
  | wt t => exact List.mem_singleton.2 rfl
/-- What holds of one of them; pre: those above it. -/
def ItOk (kids : AT → List AT) (Dn Bg : Nat → Prop) (Ok : AT → Prop) (pre : List It) : It → Prop
  | .fr t => ∀ a ∈ t.addrs, ¬ Dn a ∧ ¬ Bg a
  | .wt t => Bg t.b ∧ ¬ Dn t.b ∧ ∀ c ∈ kids t, Ok c ∨ c ∈ pre.map It.tree
/-- The stack (its top first). -/
structure StkI (kids : AT → List AT) (root : AT) (its : List It) (Dn Bg : Nat → Prop) (Ok : AT → Prop) : Prop where
  ok : ∀ pre it post, its = pre ++ it :: post → ItOk kids Dn Bg Ok pre it
  nd : (flatI its).Nodup
  rt : Ok root ∨ root ∈ its.map It.tree
  sub : ∀ it ∈ its, it.tree.Sub root ∧ it.tree.nil? = false
/-- Operands are parts of the tree, in no block twice. -/
structure KidsOk (kids : AT → List AT) : Prop where
  sub : ∀ {t c root : AT}, c ∈ kids t → t.Sub root → c.Sub root
  some : ∀ {t c : AT}, c ∈ kids t → c.nil? = false
  nd : ∀ {t : AT}, t.nil? = false → t.addrs.Nodup → (((kids t).flatMap AT.addrs) ++ [t.b]).Nodup
  mem : ∀ {t c : AT}, c ∈ kids t → ∀ a ∈ c.addrs, a ∈ t.addrs
  size : ∀ {t : AT}, t.nil? = false → ((kids t).map AT.size).sum + 1 ≤ t.size
theorem flat_fr (l : List AT) : flatI (l.map .fr) = l.flatMap AT.addrs := by
  unfold flatI; rw [List.flatMap_map]; rfl
theorem wk_fr (l : List AT) : wkI (l.map .fr) = 2 * (l.map AT.size).sum := by
  unfold wkI
  induction l with
  | nil => rfl
  | cons t l ih => simp only [List.map_cons, List.sum_cons, It.wk] at ih ⊢; rw [ih]; omega
theorem wk_app (a b : List It) : wkI (a ++ b) = wkI a + wkI b := by simp [wkI]
variable {kids : AT → List AT} {root : AT} {its : List It} {Dn Bg Dn' Bg' : Nat → Prop} {Ok Ok' : AT → Prop}
theorem app_split {α : Type} : ∀ (a b pre : List α) (x : α) (post : List α), a ++ b = pre ++ x :: post → (∃ p, a = pre ++ x :: p ∧ post = p ++ b) ∨ ∃ p, pre = a ++ p ∧ b = p ++ x :: post
  | [], b, pre, x, post, h => .inr ⟨pre, by simp, h⟩
  | y :: a, b, [], x, post, h => by
    simp only [List.cons_append, List.nil_append, List.cons.injEq] at h
    obtain ⟨rfl, rfl⟩ := h
    exact .inl ⟨a, rfl, rfl⟩
  | y :: a, b, z :: pre, x, post, h => by
    simp only [List.cons_append, List.cons.injEq] at h
    obtain ⟨rfl, h⟩ := h
    rcases app_split a b pre x post h with ⟨p, rfl, rfl⟩ | ⟨p, rfl, h2⟩
    · exact .inl ⟨p, rfl, rfl⟩
    · exact .inr ⟨p, rfl, h2⟩
theorem StkI.start (hn : root.nil? = false) (hnd : root.addrs.Nodup) (hD : ∀ a, ¬ Dn a) (hB : ∀ a, ¬ Bg a) : StkI kids root [.fr root] Dn Bg Ok :=
  ⟨fun pre it post h => by
    cases pre with
    | nil => simp at h; obtain ⟨rfl, _⟩ := h; exact fun a _ => ⟨hD a, hB a⟩
    | cons p pre => simp at h, by simpa [flatI, It.ads] using hnd, .inr (by simp [It.tree]), fun it h => by
    simp at h; subst h; exact ⟨AT.Sub.refl _, hn⟩⟩
/-- The tree at the top is looked at; it waits for its operands. -/
theorem StkI.expand {t : AT} {s : List It} (K : KidsOk kids) (h : StkI kids root (.fr t :: s) Dn Bg Ok) (hD : ∀ a, Dn' a → Dn a) (hB : ∀ a, Bg' a ↔ Bg a ∨ a = t.b) (hO : ∀ c, Ok c → Ok' c) :
    StkI kids root ((kids t).map .fr ++ .wt t :: s) Dn' Bg' Ok' := by
  obtain ⟨h1, h2, h3, h4⟩ := h
  have ht := h4 (.fr t) (by simp)
  have hfr : ∀ a ∈ t.addrs, ¬ Dn a ∧ ¬ Bg a := h1 [] (.fr t) s rfl
  have hflat : flatI (.fr t :: s) = t.addrs ++ flatI s := rfl
  rw [hflat, List.nodup_append] at h2
  obtain ⟨n1, n2, n3⟩ := h2
  have hk := K.nd ht.2 n1
  rw [List.nodup_append] at hk
  obtain ⟨k1, _, k3⟩ := hk
  have tb := AT.b_mem ht.2
  refine ⟨fun pre it post he => ?_, ?_, ?_, fun it hi => ?_⟩
  · rcases app_split _ _ _ _ _ he with ⟨p, hp, _⟩ | ⟨p, rfl, hp⟩
    · have hm : it ∈ (kids t).map .fr := by rw [hp]; simp
      obtain ⟨c, hc, rfl⟩ := List.mem_map.1 hm
      intro a ha
      have hat := K.mem hc a ha
      refine ⟨fun hd => (hfr a hat).1 (hD a hd), fun hb => ?_⟩
      rcases (hB a).1 hb with hb | rfl
      · exact (hfr _ hat).2 hb
      · exact k3 _ (List.mem_flatMap.2 ⟨c, hc, ha⟩) _ (List.mem_singleton.2 rfl) rfl
    · cases p with
      | nil =>
        simp at hp
        obtain ⟨rfl, rfl⟩ := hp
        refine ⟨(hB _).2 (.inr rfl), fun hd => (hfr _ tb).1 (hD _ hd), fun c hc => .inr ?_⟩
        rw [List.append_nil, List.map_map]
        exact List.mem_map.2 ⟨c, hc, rfl⟩
      | cons q p =>
        simp only [List.cons_append, List.cons.injEq] at hp
        obtain ⟨rfl, rfl⟩ := hp
        have h0 := h1 (.fr t :: p) it post rfl
        have hit : it ∈ p ++ it :: post := by simp
        cases it with
        | fr u =>
          intro a ha
          refine ⟨fun hd => (h0 a ha).1 (hD a hd), fun hb => ?_⟩
          rcases (hB a).1 hb with hb | rfl
          · exact (h0 _ ha).2 hb
          · exact n3 _ tb _ (List.mem_flatMap.2 ⟨.fr u, hit, ha⟩) rfl
        | wt u =>
          obtain ⟨g1, g2, g3⟩ := h0
          refine ⟨(hB _).2 (.inl g1), fun hd => g2 (hD _ hd), fun c hc => ?_⟩
          rcases g3 c hc with g | g
          · exact .inl (hO _ g)
          · refine .inr ?_
            simp only [List.map_cons, List.mem_cons] at g
            simp only [List.map_append, List.mem_append, List.map_cons, List.mem_cons]
            rcases g with g | g
            · exact .inr (.inl g)
            · exact .inr (.inr g)
  · have : flatI ((kids t).map .fr ++ .wt t :: s) = ((kids t).flatMap AT.addrs ++ [t.b]) ++ flatI s := by
      unfold flatI
      rw [List.flatMap_append, List.flatMap_map]
      simp [It.ads, List.flatMap_cons]
    rw [this, List.nodup_append]
    refine ⟨K.nd ht.2 n1, n2, fun a ha b hb => ?_⟩
    refine n3 a ?_ b hb
    rcases List.mem_append.1 ha with ha | ha
    · obtain ⟨c, hc, ha⟩ := List.mem_flatMap.1 ha
      exact K.mem hc a ha
    · rw [List.mem_singleton.1 ha]; exact tb
  · rcases h3 with h | h
    · exact .inl (hO _ h)
    · refine .inr ?_
      simp only [List.map_cons, List.mem_cons] at h
      simp only [List.map_append, List.mem_append, List.map_cons, List.mem_cons]
      rcases h with h | h
      · exact .inr (.inl h)
      · exact .inr (.inr h)
  · rcases List.mem_append.1 hi with hi | hi
    · obtain ⟨c, hc, rfl⟩ := List.mem_map.1 hi
      exact ⟨K.sub hc ht.1, K.some hc⟩
    · rcases List.mem_cons.1 hi with rfl | hi
      · exact ht
      · exact h4 it (by simp [hi])
/-- The tree at the top is finished. -/
theorem StkI.finish {it0 : It} {s : List It} (h : StkI kids root (it0 :: s) Dn Bg Ok) (hD : ∀ a, Dn' a → Dn a ∨ a = it0.tree.b) (hB : ∀ a, Bg' a → Bg a ∨ a = it0.tree.b) (hB2 : ∀ a, Bg a → Bg' a) (hO : ∀ c, Ok c → Ok' c) (ho : Ok' it0.tree) :
    StkI kids root s Dn' Bg' Ok' := by
  obtain ⟨h1, h2, h3, h4⟩ := h
  have ht := h4 it0 (by simp)
  have hflat : flatI (it0 :: s) = it0.ads ++ flatI s := rfl
  rw [hflat, List.nodup_append] at h2
  obtain ⟨n1, n2, n3⟩ := h2
  have tb := It.b_ads ht.2
  refine ⟨fun pre it post he => ?_, n2, ?_, fun it hi => h4 it (by simp [hi])⟩
  · have h0 := h1 (it0 :: pre) it post (by rw [he]; rfl)
    have hit : it ∈ s := by rw [he]; simp
    have hne : ∀ a ∈ it.ads, a ≠ it0.tree.b := fun a ha e => n3 _ tb a (List.mem_flatMap.2 ⟨it, hit, ha⟩) e.symm
    cases it with
    | fr u =>
      intro a ha
      refine ⟨fun hd => ?_, fun hb => ?_⟩
      · rcases hD a hd with hd | e
        · exact (h0 a ha).1 hd
        · exact hne a ha e
      · rcases hB a hb with hb | e
        · exact (h0 a ha).2 hb
        · exact hne a ha e
    | wt u =>
      obtain ⟨g1, g2, g3⟩ := h0
      refine ⟨hB2 _ g1, fun hd => ?_, fun c hc => ?_⟩
      · rcases hD _ hd with hd | e
        · exact g2 hd
        · exact hne u.b (List.mem_singleton.2 rfl) e
      · rcases g3 c hc with g | g
        · exact .inl (hO _ g)
        · simp only [List.map_cons, List.mem_cons] at g
          rcases g with rfl | g
          · exact .inl ho
          · exact .inr g
  · rcases h3 with h | h
    · exact .inl (hO _ h)
    · simp only [List.map_cons, List.mem_cons] at h
      rcases h with rfl | h
      · exact .inl ho
      · exact .inr h
/-- What stands at the top. -/
theorem StkI.top_fr {t : AT} {s : List It} (h : StkI kids root (.fr t :: s) Dn Bg Ok) : ¬ Dn t.b ∧ ¬ Bg t.b ∧ ∀ c : AT, (∀ a ∈ c.addrs, a ∈ t.addrs) → c.nil? = false → ¬ Dn c.b ∧ ¬ Bg c.b := by
  have h0 : ∀ a ∈ t.addrs, ¬ Dn a ∧ ¬ Bg a := h.ok [] (.fr t) s rfl
  have ht := h.sub (.fr t) (by simp)
  exact ⟨(h0 _ (AT.b_mem ht.2)).1, (h0 _ (AT.b_mem ht.2)).2, fun c hc hn => h0 _ (hc _ (AT.b_mem hn))⟩
theorem StkI.top_wt {t : AT} {s : List It} (h : StkI kids root (.wt t :: s) Dn Bg Ok) : Bg t.b ∧ ¬ Dn t.b ∧ ∀ c ∈ kids t, Ok c := by
  obtain ⟨h1, h2, h3⟩ : ItOk kids Dn Bg Ok [] (.wt t) := h.ok [] (.wt t) s rfl
  exact ⟨h1, h2, fun c hc => by
    rcases h3 c hc with g | g
    · exact g
    · cases g⟩
theorem StkI.done (h : StkI kids root [] Dn Bg Ok) : Ok root := by
  rcases h.rt with h | h
  · exact h
  · cases h
end Go.Proofs.YtgnoikfmhncbmaaGreatDoor

namespace Go.Proofs.YtgnoikfmhncbmaaGreatDoor
open Go.RowKit
/-- The operands that spanOf looks at, the first to come first. -/
def kidsS : AT → List AT
  | .nil => []
  | .node _ op _ _ l r => if pairB op l r then [l, r] else []
theorem kidsS_node (b op : Nat) (cc : ByteArray) (v : RV) (l r : AT) : kidsS (.node b op cc v l r) = if pairB op l r then [l, r] else [] := rfl
theorem nil_isNil (t : AT) : t.nil? = t.isNil := by cases t <;> rfl
theorem kidsS_ok : KidsOk kidsS where
  sub := by
    intro t c root hc hs
    cases t with
    | nil => cases hc
    | node b op cc v l r =>
      replace hc : c ∈ (if pairB op l r then [l, r] else []) := hc
      split at hc
      · obtain ⟨h1, h2⟩ := AT.Sub.left hs
        simp at hc
        rcases hc with rfl | rfl <;> assumption
      · cases hc
  some := by
    intro t c hc
    cases t with
    | nil => cases hc
    | node b op cc v l r =>
      replace hc : c ∈ (if pairB op l r then [l, r] else []) := hc
      split at hc
      · rename_i h
        unfold pairB at h
        simp only [Bool.and_eq_true, Bool.not_eq_true'] at h
        simp at hc
        rcases hc with rfl | rfl
        · rw [nil_isNil]; exact h.1.2
        · rw [nil_isNil]; exact h.2
      · cases hc
  nd := by
    intro t hn h
    cases t with
    | nil => cases hn
    | node b op cc v l r =>
      rw [kidsS_node]
      simp only [AT.addrs, List.nodup_cons] at h
      split
      · simp only [List.flatMap_cons, List.flatMap_nil, List.append_nil, AT.b]
        rw [List.nodup_append]
        refine ⟨h.2, by simp, fun a ha c hc => ?_⟩
        rw [List.mem_singleton.1 hc]
        rintro rfl
        exact h.1 ha
      · simp
  mem := by
    intro t c hc a ha
    cases t with
    | nil => cases hc
    | node b op cc v l r =>
      replace hc : c ∈ (if pairB op l r then [l, r] else []) := hc
      split at hc
      · simp at hc
        rcases hc with rfl | rfl <;> simp [AT.addrs, ha]
      · cases hc
  size := by
    intro t hn
    cases t with
    | nil => cases hn
    | node b op cc v l r =>
      rw [kidsS_node]
      split <;> simp [AT.size]
/-- A slice of its own is shortened by one. -/
theorem own_pop {w : World} {e : TypeId} {g n c : Nat} {xs : List Value} {x : Value} (h : w.ownsRow 0 e 1 (.slice (some ⟨g, 0, none⟩) (n + 1) c) (n + 1) (xs ++ [x])) : w.ownsRow 0 e 1 (.slice (some ⟨g, 0, none⟩) n c) n xs := by
  obtain ⟨h1, h2⟩ := h
  rcases h2 with ⟨h3, _⟩ | ⟨g', cap, cur, h3, h4, h5, h6, h7, h8, h9⟩
  · cases h3
  · cases h3
    simp only [List.length_append, List.length_singleton, Nat.mul_one] at h1
    have hl : xs.length = n := by omega
    refine ⟨by omega, .inr ⟨g, c, cur, rfl, h4, h5, by omega, h7, h8, ?_⟩⟩
    rw [Nat.mul_one] at h9 ⊢
    have := congrArg (List.take n) h9
    rw [List.take_take, List.take_append_of_le_length (by omega), List.take_of_length_le (by omega : xs.length ≤ n)] at this
    rw [← this]
    congr 1
    omega
/-- The tree and the two maps of spanOf. -/
structure SpM (w : World) (root : AT) (bs bb : Nat) (mS mB : Nat → Option Value) (wr : World) : Prop where
  at_ : root.At wr
  ms : PM wr bs mS
  mb : PM wr bb mB
  b : Below w.heap.size w wr
  lo : ∀ a ∈ root.addrs, a < w.heap.size
  kS : ∀ a, (mS a).isSome = true → a ∈ root.addrs
  kB : ∀ a, (mB a).isSome = true → a ∈ root.addrs
  nb : w.heap.size ≤ bs ∧ w.heap.size ≤ bb ∧ bs ≠ bb
variable {w wr w' : World} {root : AT} {bs bb : Nat} {mS mB : Nat → Option Value}
theorem SpM.only {S : Nat → Prop} (h : SpM w root bs bb mS mB wr) (ho : Only S wr w') (hS : ∀ k, k < wr.heap.size → S k → w.heap.size ≤ k ∧ k ≠ bs ∧ k ≠ bb) : SpM w root bs bb mS mB w' := by
  have hno : ∀ a ∈ root.addrs, ¬ S a := fun a ha hs => by
    have h1 := h.lo a ha
    have h2 := h.at_.lt a ha
    have := (hS a h2 hs).1; omega
  exact ⟨h.at_.only ho hno, h.ms.only ho (fun hs => (hS _ h.ms.lt hs).2.1 rfl) (fun a ha => hno a (h.kS a ha)), h.mb.only ho (fun hs => (hS _ h.mb.lt hs).2.2 rfl) (fun a ha => hno a (h.kB a ha)),
    h.b.trans (ho.below h.b.size (fun k hk hs => (hS k hk hs).1)), h.lo, h.kS, h.kB, h.nb⟩
theorem SpM.below (h : SpM w root bs bb mS mB wr) (hb : Below wr.heap.size wr w') : SpM w root bs bb mS mB w' := h.only (Only.of_below hb) (fun k hk hs => by omega)
theorem infoEx : (Tryz.prog.info? 46).map (fun i => decide (i.size ≠ 0)) = some true := by kernel_rfl
theorem zeroSp (w : World) : (zeroValue 92).run Tryz.prog w = .ok (.agg #[.int .u8 0, .bool false, .int .i64 0, .string ⟨#[]⟩, .bool false, .int .u8 0, .bool false, .int .i64 0, .string ⟨#[]⟩, .bool false, .bool false]) w := by kernel_rfl
theorem zeroBo (w : World) : (zeroValue 4).run Tryz.prog w = .ok (.bool false) w := by kernel_rfl
abbrev spZ : Value := .agg #[.int .u8 0, .bool false, .int .i64 0, .string ⟨#[]⟩, .bool false, .int .u8 0, .bool false, .int .i64 0, .string ⟨#[]⟩, .bool false, .bool false]
theorem lookS (h : PM wr bs mS) {a : Nat} (ha : Plain wr a) (c : Bool) : (Instr.lookup 131 (.map (some bs)) (ptrV a) c).run Tryz.prog wr = .ok (if c then .tuple #[(mS a).getD spZ, .bool (mS a).isSome] else (mS a).getD spZ) wr := by
  obtain ⟨j, hj, hs⟩ : ∃ j, Tryz.prog.info? 46 = some j ∧ j.size ≠ 0 := by
    have := infoEx
    cases h : Tryz.prog.info? 46 with
    | none => rw [h] at this; cases this
    | some j => rw [h] at this; exact ⟨j, rfl, by simpa using this⟩
  exact h.look Tryz.underlying131 Tryz.underlying24 hj hs (zeroSp wr) ha c
theorem lookB (h : PM wr bb mB) {a : Nat} (ha : Plain wr a) (c : Bool) : (Instr.lookup 112 (.map (some bb)) (ptrV a) c).run Tryz.prog wr = .ok (if c then .tuple #[(mB a).getD (.bool false), .bool (mB a).isSome] else (mB a).getD (.bool false)) wr := by
  obtain ⟨j, hj, hs⟩ : ∃ j, Tryz.prog.info? 46 = some j ∧ j.size ≠ 0 := by
    have := infoEx
    cases h : Tryz.prog.info? 46 with
    | none => rw [h] at this; cases this
    | some j => rw [h] at this; exact ⟨j, rfl, by simpa using this⟩
  exact h.look Tryz.underlying112 Tryz.underlying24 hj hs (zeroBo wr) ha c
theorem SpM.putS (h : SpM w root bs bb mS mB wr) {a : Nat} (ha : a ∈ root.addrs) (v : Value) : ∃ w', (Instr.mapUpdate 131 (.map (some bs)) (ptrV a) v).run Tryz.prog wr = .ok () w' ∧ SpM w root bs bb (setM mS a v) mB w' ∧ Only (fun k => k = bs) wr w' := by
  obtain ⟨j, hj, hs⟩ : ∃ j, Tryz.prog.info? 46 = some j ∧ j.size ≠ 0 := by
    have := infoEx
    cases h : Tryz.prog.info? 46 with
    | none => rw [h] at this; cases this
    | some j => rw [h] at this; exact ⟨j, rfl, by simpa using this⟩
  obtain ⟨w', h1, h2, h3⟩ := h.ms.put Tryz.underlying131 Tryz.underlying24 hj hs (h.at_.plain a ha) v
  have hno : ∀ a ∈ root.addrs, a ≠ bs := fun a ha e => by have := h.lo a ha; have := h.nb.1; omega
  refine ⟨w', h1, ⟨h.at_.only h3 (fun a ha => hno a ha), h2, h.mb.only h3 (fun e => h.nb.2.2 e.symm) (fun a ha => hno a (h.kB a ha)), h.b.trans (h3.below h.b.size (fun k _ e => by rw [e]; exact h.nb.1)), h.lo, fun k hk => ?_, h.kB, h.nb⟩, h3⟩
  unfold setM at hk
  split at hk
  · rename_i e; rw [e]; exact ha
  · exact h.kS k hk
theorem SpM.putB (h : SpM w root bs bb mS mB wr) {a : Nat} (ha : a ∈ root.addrs) (v : Value) : ∃ w', (Instr.mapUpdate 112 (.map (some bb)) (ptrV a) v).run Tryz.prog wr = .ok () w' ∧ SpM w root bs bb mS (setM mB a v) w' ∧ Only (fun k => k = bb) wr w' := by
  obtain ⟨j, hj, hs⟩ : ∃ j, Tryz.prog.info? 46 = some j ∧ j.size ≠ 0 := by
    have := infoEx
    cases h : Tryz.prog.info? 46 with
    | none => rw [h] at this; cases this
    | some j => rw [h] at this; exact ⟨j, rfl, by simpa using this⟩
  obtain ⟨w', h1, h2, h3⟩ := h.mb.put Tryz.underlying112 Tryz.underlying24 hj hs (h.at_.plain a ha) v
  have hno : ∀ a ∈ root.addrs, a ≠ bb := fun a ha e => by have := h.lo a ha; have := h.nb.2.1; omega
  refine ⟨w', h1, ⟨h.at_.only h3 (fun a ha => hno a ha), h.ms.only h3 (fun e => h.nb.2.2 e) (fun a ha => hno a (h.kS a ha)), h2, h.b.trans (h3.below h.b.size (fun k _ e => by rw [e]; exact h.nb.2.1)), h.lo, h.kS, fun k hk => ?_, h.nb⟩, h3⟩
  unfold setM at hk
  split at hk
  · rename_i e; rw [e]; exact ha
  · exact h.kB k hk
/-- Both: the stack too. -/
structure SpI (w : World) (root : AT) (col : ByteArray) (bs bb : Nat) (its : List It) (sa : Option Addr) (sc : Nat) (mS mB : Nat → Option Value) (wr : World) : Prop where
  m : SpM w root bs bb mS mB wr
  own : wr.ownsRow 0 24 1 (.slice sa its.length sc) its.length (its.reverse.map fun it => it.tree.ptr)
  ob : ∀ k, Value.ownBlock (.slice sa its.length sc) = some k → w.heap.size ≤ k ∧ k ≠ bs ∧ k ≠ bb
  inv : StkI kidsS root its (fun a => (mS a).isSome = true) (fun a => (mB a).isSome = true) (fun c => mS c.b = some (bndP col c).val)
  vB : ∀ a v, mB a = some v → v = .bool true
theorem len_wk : ∀ {its : List It}, (∀ it ∈ its, it.tree.nil? = false) → its.length ≤ wkI its
  | [], _ => Nat.le_refl _
  | it :: s, h => by
    have h1 := len_wk (its := s) (fun x hx => h x (by simp [hx]))
    have h2 := h it (by simp)
    have h3 : wkI (it :: s) = it.wk + wkI s := by simp [wkI]
    have h4 : 1 ≤ it.wk := by
      cases it with
      | fr t => have := AT.size_pos h2; show 1 ≤ 2 * t.size; simp only [It.tree] at this; omega
      | wt t => exact Nat.le_refl _
    simp only [List.length_cons]; omega
variable {col : ByteArray} {it : It} {s : List It} {g sc : Nat}
theorem SpI.fin {S : Nat → Prop} (h : SpI w root col bs bb (it :: s) (some ⟨g, 0, none⟩) sc mS mB wr) (hn : mS it.tree.b = none) (M' : SpM w root bs bb (setM mS it.tree.b (bndP col it.tree).val) mB w') (ho : Only S wr w') (hS : ¬ S g) :
    SpI w root col bs bb s (some ⟨g, 0, none⟩) sc (setM mS it.tree.b (bndP col it.tree).val) mB w' := by
  have hown := ownsRow_only h.own ho (fun k hk hs => hS (by
    have : g = k := Option.some.inj hk
    rw [this]; exact hs))
  rw [List.reverse_cons, List.map_append] at hown
  refine ⟨M', own_pop hown, fun k hk => h.ob k hk, h.inv.finish (fun a ha => ?_) (fun a ha => .inl ha) (fun a ha => ha) (fun c hc => ?_) (setM_same _ _ _), h.vB⟩
  · unfold setM at ha
    split at ha
    · rename_i e; exact .inr e
    · exact .inl ha
  · rw [setM_ne]
    · exact hc
    · intro e; rw [e, hn] at hc; cases hc
theorem SpI.exp {b op : Nat} {cc : ByteArray} {v : RV} {l r : AT} {sa sa' : Option Addr} {sc' : Nat} (h : SpI w root col bs bb (.fr (.node b op cc v l r) :: s) sa sc mS mB wr) (hp : pairB op l r = true)
    (M' : SpM w root bs bb mS (setM mB b (.bool true)) w') (hown : w'.ownsRow 0 24 1 (.slice sa' (s.length + 3) sc') (s.length + 3) ((s.reverse.map fun it => it.tree.ptr) ++ [ptrV b, r.ptr, l.ptr]))
    (hob : ∀ k, Value.ownBlock (.slice sa' (s.length + 3) sc') = some k → w.heap.size ≤ k ∧ k ≠ bs ∧ k ≠ bb) :
    SpI w root col bs bb (.fr l :: .fr r :: .wt (.node b op cc v l r) :: s) sa' sc' mS (setM mB b (.bool true)) w' := by
  have hk : kidsS (.node b op cc v l r) = [l, r] := by rw [kidsS_node, if_pos hp]
  have hi := h.inv.expand kidsS_ok (Dn' := fun a => (mS a).isSome = true) (Bg' := fun a => ((setM mB b (.bool true)) a).isSome = true) (Ok' := fun c => mS c.b = some (bndP col c).val) (fun a ha => ha) (fun a => by
    show ((setM mB b (.bool true)) a).isSome = true ↔ (mB a).isSome = true ∨ a = b
    unfold setM
    split
    · rename_i e; simp [e]
    · rename_i e; simp [e]) (fun c hc => hc)
  rw [hk] at hi
  refine ⟨M', ?_, hob, hi, fun a x hx => ?_⟩
  · have e : (It.fr l :: .fr r :: .wt (.node b op cc v l r) :: s).reverse.map (fun it => it.tree.ptr) = (s.reverse.map fun it => it.tree.ptr) ++ [ptrV b, r.ptr, l.ptr] := by
      simp [It.tree, AT.ptr]
    rw [e]; exact hown
  · unfold setM at hx
    split at hx
    · cases hx; rfl
    · exact h.vB a x hx
end Go.Proofs.YtgnoikfmhncbmaaGreatDoor
