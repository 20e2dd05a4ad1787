/- Cuts of slices; what the law's rows hold in later worlds. -/
import Derived.Test.YtjmdibgncaljaaaU1
namespace Go.Proofs.Ytjmdibgncaljaaa
open Go.RowKit Dev
set_option maxRecDepth 100000 in
theorem cutS1 (a : Option Addr) (n c k : Nat) (hk : k ≤ n) (hc : n ≤ c) (wx : World) : (Instr.slice 63 (.slice a n c) none (some (.int .i64 (k : Int))) none).run Try.prog wx = .ok (.slice a k c) wx := by
  rw [run_slice_h (P := Try.prog) wx 63 a n c Try.underlying63 .i64 (k : Int) (by omega) (by omega)]
  have : (sizeOf (Try.prog.elem 63)).run Try.prog wx = .ok 1 wx := by simp [go_sem]
  rw [this]
  simp only [Result.andThen, sliced, Int.toNat_natCast, Nat.sub_zero]
  by_cases h : c = 0
  · rw [if_pos h]
  · rw [if_neg h]
    simp [Addr.add]
set_option maxRecDepth 100000 in
theorem cutS2 (a : Option Addr) (n c k : Nat) (hk : k ≤ n) (hc : n ≤ c) (wx : World) : (Instr.slice 76 (.slice a n c) none (some (.int .i64 (k : Int))) none).run Try.prog wx = .ok (.slice a k c) wx := by
  rw [run_slice_h (P := Try.prog) wx 76 a n c Try.underlying76 .i64 (k : Int) (by omega) (by omega)]
  have : (sizeOf (Try.prog.elem 76)).run Try.prog wx = .ok 2 wx := by simp [go_sem]
  rw [this]
  simp only [Result.andThen, sliced, Int.toNat_natCast, Nat.sub_zero]
  by_cases h : c = 0
  · rw [if_pos h]
  · rw [if_neg h]
    simp [Addr.add]
set_option maxRecDepth 100000 in
theorem cutS3 (a : Option Addr) (n c k : Nat) (hk : k ≤ n) (hc : n ≤ c) (wx : World) : (Instr.slice 28 (.slice a n c) none (some (.int .i64 (k : Int))) none).run Try.prog wx = .ok (.slice a k c) wx := by
  rw [run_slice_h (P := Try.prog) wx 28 a n c Try.underlying28 .i64 (k : Int) (by omega) (by omega)]
  have : (sizeOf (Try.prog.elem 28)).run Try.prog wx = .ok 1 wx := by simp [go_sem]
  rw [this]
  simp only [Result.andThen, sliced, Int.toNat_natCast, Nat.sub_zero]
  by_cases h : c = 0
  · rw [if_pos h]
  · rw [if_neg h]
    simp [Addr.add]
theorem Rd.prefV {w : World} {a : Option Addr} {n c k : Nat} {xs : List Value} (h : Rd w (.slice a n c) n xs) (hl : xs.length = n) (hk : k ≤ n) : Rd w (.slice a k c) k (xs.take k) := by
  obtain ⟨a', cap, e, h⟩ := h
  simp only [Value.slice.injEq, true_and] at e
  obtain ⟨rfl, _⟩ := e
  rcases h with ⟨h0, h1⟩ | ⟨b, off, rfl, h⟩
  · exact ⟨_, _, rfl, .inl ⟨by omega, by rw [h1]; simp⟩⟩
  · refine ⟨_, _, rfl, .inr ⟨b, off, rfl, fun j u hj => h j u ?_⟩⟩
    rw [List.getElem?_take] at hj
    split at hj
    · exact hj
    · cases hj
def lit0 : List CS := [⟨[3], 5⟩]
def rowsL (rs : List (List CS)) : List (List CS) := lit0 :: rs.take 2
/-- The law's rounds, in a row of their own, in all worlds to come. -/
def ArgsV (W9 : World) (F1 : Dev.Own) (ub gr : Nat) (rl : List (List CS)) : Prop :=
  ∀ (i : Nat) (l : List CS), rl[i]? = some l → ∃ (a : Option Addr) (c : Nat), ∀ wx, Only (fun k => Mine F1 0 k ∨ k = ub) W9 wx → wx.cell? ⟨gr, i, none⟩ = some (.slice a l.length c) ∧ SavesV wx (.slice a l.length c) l
theorem args_mk {W W9 : World} {F1 : Dev.Own} {ub gr b0 b1 : Nat} {rs : List (List CS)} {vs tl : List Value} (hbw : Below W.heap.size W W9) (hF : ∀ k, k < W.heap.size → F1 k = none) (hub : W.heap.size ≤ ub)
    (h0 : Has W9 b0 [.int .u8 3] 5) (h1 : Has W9 b1 [.slice (some ⟨b0, 0, none⟩) 1 1, .int .u64 5] 75) (f0 : F1 b0 = none) (f1 : F1 b1 = none) (n0 : b0 ≠ ub) (n1 : b1 ≠ ub)
    (hg : Has W9 gr (.slice (some ⟨b1, 0, none⟩) 1 1 :: vs.take 2 ++ tl) 76) (fg : F1 gr = none) (ng : gr ≠ ub) (hl : vs.length = rs.length)
    (hvs : ∀ (i : Nat) (l : List CS), rs[i]? = some l → ∃ y, vs[i]? = some y ∧ SavesV W y l) : ArgsV W9 F1 ub gr (rowsL rs) := by
  intro i l hi
  have hno : ∀ {k}, F1 k = none → k ≠ ub → ¬ (Mine F1 0 k ∨ k = ub) := fun hf hn e => by
    rcases e with ⟨r, e⟩ | e
    · rw [hf] at e; cases e
    · exact hn e
  cases i with
  | zero =>
    unfold rowsL at hi
    simp only [List.getElem?_cons_zero, Option.some.injEq] at hi
    subst hi
    exact ⟨_, _, fun wx ho => ⟨(hg.only ho (hno fg ng)).cell (o := 0) rfl, lit_saves (h0.only ho (hno f0 n0)) (h1.only ho (hno f1 n1))⟩⟩
  | succ i =>
    unfold rowsL at hi
    simp only [List.getElem?_cons_succ] at hi
    have hi2 : i < 2 := by
      rcases Nat.lt_or_ge i 2 with g | g
      · exact g
      · rw [List.getElem?_eq_none (by rw [List.length_take]; omega)] at hi; cases hi
    rw [List.getElem?_take_of_lt hi2] at hi
    obtain ⟨y, hy, hs⟩ := hvs i l hi
    have hkeep := hs
    obtain ⟨a, c, ps, rfl, h2⟩ := hs
    refine ⟨a, c, fun wx ho => ⟨(hg.only ho (hno fg ng)).cell ?_, hkeep.kept (hbw.trans (ho.below hbw.size (fun k _ hk => by
      rcases hk with ⟨r, e⟩ | e
      · rcases Nat.lt_or_ge k W.heap.size with g | g
        · rw [hF k g] at e; cases e
        · exact g
      · rw [e]; exact hub)))⟩⟩
    have : i < vs.length := by
      rcases Nat.lt_or_ge i vs.length with g | g
      · exact g
      · rw [List.getElem?_eq_none g] at hy; cases hy
    show (vs.take 2 ++ tl)[i]? = _
    rw [List.getElem?_append_left (by rw [List.length_take]; omega), List.getElem?_take_of_lt hi2]
    exact hy
theorem getU8 {zs : List Nat} {w : World} {sa : Option Addr} {n sc : Nat} (hr : Rd w (.slice sa n sc) n (u8s zs)) (hn : zs.length = n) : ∀ k, k < n → ∃ (bl ol x : Nat), sa = some ⟨bl, ol, none⟩ ∧ zs[k]? = some x ∧ ∀ wx, Below w.heap.size w wx → wx.cell? ⟨bl, ol + k, none⟩ = some (.int .u8 (x : Int)) := fun k hk => by
  obtain ⟨bl, ol, cl, e1, h1⟩ := hr.cells (by omega)
  simp only [Value.slice.injEq, true_and] at e1
  obtain ⟨x, hx⟩ : ∃ q, zs[k]? = some q := ⟨_, List.getElem?_eq_getElem (by omega)⟩
  have k1 := h1 k (.int .u8 (x : Int)) (by unfold u8s; rw [List.getElem?_map, hx]; rfl)
  exact ⟨bl, ol, x, e1.1, hx, fun wx hb => (hb.cell (World.block_lt_of_cell? _ _ k1)).trans k1⟩
theorem offL_take {ws : List Nat} {i b : Nat} (hb : ws[i]? = some b) (hi : i < 3) : (offL ws).take (i + 1) = (offL ws).take i ++ [192 + 8 * (b % 56)] := by
  have : (offL ws)[i]? = some (192 + 8 * (b % 56)) := by
    unfold offL
    rw [List.getElem?_map, List.getElem?_take_of_lt hi, hb]; rfl
  rw [List.take_add_one, this]; rfl
theorem offL_len' (ws : List Nat) : (offL ws).length = min 3 ws.length := by unfold offL; rw [List.length_map, List.length_take]
theorem rowsL_len (rs : List (List CS)) : (rowsL rs).length = min 2 rs.length + 1 := by unfold rowsL; rw [List.length_cons, List.length_take]
end Go.Proofs.Ytjmdibgncaljaaa
