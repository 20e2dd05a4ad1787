/- The law PlanTexts: the classes of its region that makes the reference's plan; how long a plan's text is. -/
import Derived.Test.YtgnoikfmhncbmaaGreatDoorU5
import Derived.Test.YtgnoikfmhncbmaaGreatDoorN7
set_option linter.unusedVariables false
set_option linter.unusedSimpArgs false
namespace Go.Proofs.YtgnoikfmhncbmaaGreatDoor
open Go.RowKit Go.Lib
def rpZ : List Value := [.int .i64 0, .string ⟨#[]⟩, .int .i64 0, .bool false, .int .i64 0, .string ⟨#[]⟩, .bool false, .int .i64 0, .bool false, .int .i64 0, .string ⟨#[]⟩, .bool false, .int .u32 0, .int .u32 0, .string ⟨#[]⟩, .bool false, .int .i64 0]
structure PX (w0 : World) (l h : Value) (rc : List Value) (H : Nat → Option Value) (w : World) : Prop where
  c0 : ∀ u, H 0 = some u → u = l
  c1 : ∀ u, H 1 = some u → u = h
  c2 : ∀ u, H 2 = some u → u = .agg rc.toArray
  c3 : ∀ u, H 3 = some u → ∃ b, u = .pointer (some ⟨b, 0, none⟩) ∧ w0.heap.size ≤ b ∧ Has w b (if (H 4).isSome = true then rc else rpZ) 48
  c4 : ∀ u, H 4 = some u → u = undef
  c5 : H 3 = none → H 4 = none
  b : Below w0.heap.size w0 w
section
variable {w0 w w' : World} {l h : Value} {rc : List Value} {H : Nat → Option Value}
theorem PX.start : PX w0 l h rc (fun _ => none) w0.drew := ⟨fun u e => (by cases e), fun u e => (by cases e), fun u e => (by cases e), fun u e => (by cases e), fun u e => (by cases e), fun _ => rfl, (Below.refl _ _).drew⟩
theorem PX.move (hp : PX w0 l h rc H w) (hb : Below w.heap.size w w') : (∀ u, H 3 = some u → ∃ b, u = .pointer (some ⟨b, 0, none⟩) ∧ w0.heap.size ≤ b ∧ Has w' b (if (H 4).isSome = true then rc else rpZ) 48) ∧ Below w0.heap.size w0 w' :=
  ⟨fun u e => by
    obtain ⟨b, h1, h2, h3⟩ := hp.c3 u e
    exact ⟨b, h1, h2, h3.only (Only.of_below hb) (Nat.not_le.2 h3.lt)⟩, hp.b.trans (hb.mono hp.b.size)⟩
theorem PX.lo (hp : PX w0 l h rc H w) (hb : Below w.heap.size w w') : PX w0 l h rc (setP H 0 l) w' := by
  obtain ⟨h3, h6⟩ := hp.move hb
  exact ⟨fun u e => by cases e; rfl, hp.c1, hp.c2, h3, hp.c4, hp.c5, h6⟩
theorem PX.hi (hp : PX w0 l h rc H w) (hb : Below w.heap.size w w') : PX w0 l h rc (setP H 1 h) w' := by
  obtain ⟨h3, h6⟩ := hp.move hb
  exact ⟨hp.c0, fun u e => by cases e; rfl, hp.c2, h3, hp.c4, hp.c5, h6⟩
theorem PX.bld (hp : PX w0 l h rc H w) : PX w0 l h rc (setP H 2 (.agg rc.toArray)) w := ⟨hp.c0, hp.c1, fun u e => by cases e; rfl, hp.c3, hp.c4, hp.c5, hp.b⟩
theorem PX.new (hp : PX w0 l h rc H w) (hn : H 3 = none) : PX w0 l h rc (setP H 3 (.pointer (some ⟨w.heap.size, 0, none⟩))) (w.alloc (.cells rpZ.toArray 48)) := by
  obtain ⟨h3, h6⟩ := hp.move ((Below.refl w.heap.size w).alloc (Nat.le_refl _) (.cells rpZ.toArray 48))
  refine ⟨hp.c0, hp.c1, hp.c2, fun u e => ?_, hp.c4, fun e => (by cases e), h6⟩
  cases e
  refine ⟨_, rfl, hp.b.size, ?_⟩
  rw [show setP H 3 (.pointer (some ⟨w.heap.size, 0, none⟩)) 4 = H 4 from rfl, hp.c5 hn]
  exact Has.new w rpZ 48
theorem PX.sto (hp : PX w0 l h rc H w) {b : Nat} (h3 : H 3 = some (.pointer (some ⟨b, 0, none⟩))) (hh : Has w' b rc 48) (ho : Only (fun k => k = b) w w') : PX w0 l h rc (setP H 4 undef) w' := by
  obtain ⟨b', e1, e2, e3⟩ := hp.c3 _ h3
  cases e1
  refine ⟨hp.c0, hp.c1, hp.c2, fun u e => ?_, fun u e => by cases e; rfl, fun e => ?_, hp.b.trans (ho.below hp.b.size (fun k _ e => by omega))⟩
  · rw [show setP H 4 undef 3 = H 3 from rfl, h3] at e
    cases e
    exact ⟨b, rfl, e2, hh⟩
  · rw [show setP H 4 undef 3 = H 3 from rfl, h3] at e
    cases e
theorem infoRPlan : (Tryz.prog.info? 48).map (·.size) = some 17 := by kernel_rfl
theorem rplan_store {w : World} {b : Nat} {cs new : List Value} (hh : Has w b cs 48) (hl : cs.length = 17) (hn : new.length = 17) (h1 : ∀ v ∈ new, v.oneCell' = true) :
    ∃ w', (Instr.storeAt 48 (.pointer (some ⟨b, 0, none⟩)) (.agg new.toArray)).run Tryz.prog w = .ok () w' ∧ Has w' b new 48 ∧ Only (fun k => k = b) w w' := by
  obtain ⟨g1, g2, g3⟩ := set_all hh (hn.trans hl.symm)
  refine ⟨_, run_storeAt_mid (P := Tryz.prog) w b 0 48 new.toArray (by simpa using g1) (by rw [infoRPlan]; simp [hn]) (by simpa using h1), by simpa using g2, by simpa using g3⟩
theorem PX.ex (hl : rc.length = 17) (h1c : ∀ v ∈ rc, v.oneCell' = true) (H : Nat → Option Value) (w : World) (hp : PX w0 l h rc H w) (hn : ∃ s, s < 5 ∧ H s = none) : ∃ s u w', s < 5 ∧ H s = none ∧ PX w0 l h rc (setP H s u) w' := by
  obtain ⟨s, hs, he⟩ := hn
  match s, hs with
  | 0, _ => exact ⟨0, _, w, by omega, he, hp.lo (Below.refl _ _)⟩
  | 1, _ => exact ⟨1, _, w, by omega, he, hp.hi (Below.refl _ _)⟩
  | 2, _ => exact ⟨2, _, w, by omega, he, hp.bld⟩
  | 3, _ => exact ⟨3, _, _, by omega, he, hp.new he⟩
  | 4, _ =>
    cases h3 : H 3 with
    | none => exact ⟨3, _, _, by omega, h3, hp.new h3⟩
    | some p =>
      obtain ⟨b, rfl, hb, hh⟩ := hp.c3 p h3
      rw [he] at hh
      obtain ⟨w', _, g1, g2⟩ := rplan_store (new := rc) hh rfl hl h1c
      exact ⟨4, undef, w', by omega, he, hp.sto h3 g1 g2⟩
theorem PX.at {Hf : Nat → Value} {nds : List Nat} : clsP (PX w0 l h rc) Hf nds w → Below w0.heap.size w0 w := fun ⟨_, _, _, h⟩ => h.b
theorem PX.done {Hf : Nat → Value} (hp : PX w0 l h rc (fullP 5 Hf) w) : Hf 0 = l ∧ Hf 1 = h ∧ Hf 2 = .agg rc.toArray ∧ Hf 4 = undef ∧ ∃ b, Hf 3 = .pointer (some ⟨b, 0, none⟩) ∧ w0.heap.size ≤ b ∧ Has w b rc 48 ∧ Below w0.heap.size w0 w := by
  obtain ⟨b, h1, h2, h3⟩ := hp.c3 (Hf 3) rfl
  exact ⟨hp.c0 _ rfl, hp.c1 _ rfl, hp.c2 _ rfl, hp.c4 _ rfl, b, h1, h2, h3, hp.b⟩
end
theorem itoa_len (n : Int) (h0 : -9223372036854775808 ≤ n) (h1 : n ≤ 9223372036854775807) : (itoa n).length ≤ 21 := by
  unfold itoa
  have h : (decDigits n.natAbs).length ≤ 20 := by rw [decDigits_length]; exact nDigits_le20 _ (by omega)
  have h2 : (decDigits n.toNat).length ≤ 20 := by rw [decDigits_length]; exact nDigits_le20 _ (by omega)
  split
  · simp only [List.length_cons]; omega
  · omega
theorem bound_len (v : RV) : (boundP v).length ≤ 2 * v.tx.size + 30 := by
  unfold boundP
  by_cases hn : v.nl = true
  · rw [if_pos hn]; simp
  rw [if_neg hn]
  have hX : textP v = if formP v ≠ 0 then [] else if v.nl then nullL else if v.ty = 1 then itoa v.n else if v.ty = 2 then 39 :: dbl v.tx.data.toList ++ [39] else if v.b then trueL else falseL := rfl
  rw [hX]
  by_cases hf : formP v ≠ 0
  · rw [if_pos hf]; simp
  have hf0 : formP v = 0 := by simpa using hf
  obtain ⟨⟨t1, t2⟩, n1, x1, c1, ⟨n2, n3⟩, _, sz⟩ := form_parts hf0
  rw [if_neg hf, if_neg hn]
  by_cases h1 : v.ty = 1
  · rw [if_pos h1]
    have := itoa_len v.n (by omega) (by omega); omega
  rw [if_neg h1]
  by_cases h2 : v.ty = 2
  · rw [if_pos h2]
    have h := dbl_len v.tx.data.toList
    have e : v.tx.data.toList.length = v.tx.size := by simp
    simp only [List.length_append, List.length_cons, List.length_nil]
    omega
  rw [if_neg h2]
  by_cases h3 : v.b = true
  · rw [if_pos h3]; show (4 : Nat) ≤ _; omega
  · rw [if_neg h3]; show (5 : Nat) ≤ _; omega
theorem text_len (p : Nat) (col : ByteArray) (lo hi : RV) (a b : Nat) (ha : a < 4294967296) (hb : b < 4294967296) (f : Bool) (od : ByteArray) (ds : Bool) (lm : Int) (h0 : -9223372036854775808 ≤ lm) (h1 : lm ≤ 9223372036854775807)
    (hs : col.size + od.size + lo.tx.size + hi.tx.size ≤ 4194304) : (textL p col lo hi a b f od ds lm).length ≤ 140737488355328 := by
  have hda : (decDigits a).length ≤ 20 := by rw [decDigits_length]; exact nDigits_le20 _ (by omega)
  have hdb : (decDigits b).length ≤ 20 := by rw [decDigits_length]; exact nDigits_le20 _ (by omega)
  have hl := bound_len lo
  have hh := bound_len hi
  have hi2 := itoa_len lm h0 h1
  have ec : col.data.toList.length = col.size := by simp
  have eo : od.data.toList.length = od.size := by simp
  unfold textL
  split
  · have hne : pathL p col lo hi a b ≠ [] := by unfold pathL; split <;> (try split) <;> simp
    rw [join_app hne, tailL, joinTail_app, joinTail_app, List.length_append, List.length_append, List.length_append]
    have p1 : (join (pathL p col lo hi a b) [32]).length ≤ col.size + 2 * lo.tx.size + 2 * hi.tx.size + 200 := by
      unfold pathL
      split
      · rw [join_one]; show (4 : Nat) ≤ _; omega
      · split
        · rw [join_cons]; simp only [joinTail, List.map_cons, List.map_nil, List.flatten_cons, List.flatten_nil, List.length_append, List.length_cons, List.length_nil, idsW]; omega
        · rw [join_cons]; simp only [joinTail, List.map_cons, List.map_nil, List.flatten_cons, List.flatten_nil, List.length_append, List.length_cons, List.length_nil, indexW]; omega
    have p2 : (joinTail [32] (filL f)).length ≤ 10 := by cases f <;> decide
    have p3 : (joinTail [32] (ordL od ds)).length ≤ od.size + 30 := by
      unfold ordL
      split
      · show (0 : Nat) ≤ _; omega
      · cases ds <;> simp only [dscL, joinTail, List.map_cons, List.map_nil, List.map_append, List.flatten_append, List.flatten_cons, List.flatten_nil, List.length_append, List.length_cons, List.length_nil, orderW, descW, if_true, Bool.false_eq_true, if_false, List.append_nil] <;> omega
    have p4 : (joinTail [32] (limL lm)).length ≤ 40 := by
      unfold limL
      split
      · simp only [joinTail, List.map_cons, List.map_nil, List.flatten_cons, List.flatten_nil, List.length_append, List.length_cons, List.length_nil, limitW]; omega
      · show (0 : Nat) ≤ _; omega
    omega
  · show (0 : Nat) ≤ _; omega
end Go.Proofs.YtgnoikfmhncbmaaGreatDoor
