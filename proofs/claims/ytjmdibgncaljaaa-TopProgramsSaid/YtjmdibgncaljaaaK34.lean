/- image: put, check, With, Resize. -/
import Derived.Test.YtjmdibgncaljaaaK29
import Derived.Lib.BufferWrite
import Derived.Deep.WholeRow
namespace Go.Proofs.Ytjmdibgncaljaaa.Dev
open Go.RowKit Go.Maps
variable {w : World}
/-- Bytes that may be written: a block's first cells. -/
def BufB (w : World) (b : Nat) (bs : List Nat) : Prop := ∀ j, j < bs.length → w.cell? ⟨b, j, none⟩ = some (.int .u8 ((bs.getD j 0 : Nat) : Int)) ∧ w.frozen? ⟨b, j, none⟩ = false
theorem BufB.rd {b : Nat} {bs : List Nat} (h : BufB w b bs) (c : Nat) : Rd w (.slice (some ⟨b, 0, none⟩) bs.length c) bs.length (u8s bs) := by
  refine ⟨_, c, rfl, .inr ⟨b, 0, rfl, fun j u hu => ?_⟩⟩
  have hj : j < bs.length := by
    rcases Nat.lt_or_ge j bs.length with h | h
    · exact h
    · rw [List.getElem?_eq_none (by simpa [u8s] using h)] at hu; cases hu
  rw [u8s_get _ _ _ (get_of_lt 0 hj)] at hu
  cases hu
  rw [Nat.zero_add]
  exact (h j hj).1
theorem BufB.set {b : Nat} {bs : List Nat} (h : BufB w b bs) {j v : Nat} (hj : j < bs.length) : BufB (w.setCell ⟨b, j, none⟩ (.int .u8 (v : Int))) b (bs.set j v) := by
  intro i hi
  rw [List.length_set] at hi
  refine ⟨?_, by rw [World.frozen?_setCell]; exact (h i hi).2⟩
  by_cases e : i = j
  · subst e
    rw [World.cell?_setCell_same' _ _ _ (by rw [(h i hj).1]; rfl), getD_of 0 (List.getElem?_set_self hj)]
  · rw [World.cell?_setCell_other _ _ _ _ (by intro e2; injection e2 with _ e3; exact e e3.symm), (h i hi).1]
    rw [List.getD, List.getD, List.getElem?_set_ne (Ne.symm e)]
theorem BufB.only {S : Nat → Prop} {w' : World} {b : Nat} {bs : List Nat} (h : BufB w b bs) (ho : Only S w w') (hs : ¬ S b) : BufB w' b bs := by
  intro j hj
  obtain ⟨h1, h2⟩ := h j hj
  have hb := World.block_lt_of_cell? _ _ h1
  have e := ho.block b hb hs
  exact ⟨(World.cell?_of_block e).trans h1, (World.frozen?_of_block e).trans h2⟩
set_option maxHeartbeats 2000000 in
set_option maxRecDepth 100000 in
theorem iput_any (b : Nat) (bs : List Nat) (c off v : Nat) (hB : BufB w b bs) (ho : off + 8 ≤ bs.length) (hl : bs.length ≤ 1000000) (hv : v < 18446744073709551616) :
    Calls Try.prog 103 #[.slice (some ⟨b, 0, none⟩) bs.length c, .int .i64 (off : Int), .int .u64 (v : Int)] w fun e w' => e = .returned (.tuple #[]) ∧ BufB w' b (setBy bs off v 8) ∧ Only (fun k => k = b) w w' := by
  generalize hpost : (fun (e : Ending) w' => e = .returned (.tuple #[]) ∧ BufB w' b (setBy bs off v 8) ∧ Only (fun k => k = b) w w') = post
  have hz0 := setBy_zero bs off v
  have hsl := fun k h => setBy_len bs off v k h
  have hss := fun k h => setBy_step bs off v k h
  have hfin : ∀ w', BufB w' b (setBy bs off v 8) → Only (fun k => k = b) w w' → post (.returned (.tuple #[])) w' := fun w' h1 h2 => by rw [← hpost]; exact ⟨rfl, h1, h2⟩
  replace hz0 := Lib.hid hz0
  replace hsl := Lib.hid hsl
  replace hss := Lib.hid hss
  replace hfin := Lib.hid hfin
  replace hpost := Lib.hid hpost
  replace hB := Lib.hid hB
  obtain ⟨n, hn⟩ : ∃ n, n = bs.length := ⟨_, rfl⟩
  rw [← hn] at ho hl ⊢
  replace hn := Lib.hid hn
  go_enter Try.func103, Try.ntmps103
  go_wp2_with fail
  go_loopw [7] (fun iv wr => ∃ k : Nat, k ≤ 8 ∧ iv = .int .i64 (k : Int) ∧ BufB wr b (setBy bs off v k) ∧ Only (fun k => k = b) w wr) (fun iv _ => 8 - (intOf iv).toNat)
  case atStart => exact ⟨0, by omega, rfl, by rw [hz0.out]; exact hB.out, Only.refl _ _⟩
  case round =>
    clear hB
    obtain ⟨k, hk, rfl, hA, hO⟩ := hrel
    by_cases hb8 : k < 8
    · have hbI : decide ((k : Int) < 8) = true := decide_eq_true (by omega)
      have hw1 := Lib.hid (show wrap64 ((k : Int) + 1) = (k : Int) + 1 by unfold wrap64; omega)
      have hAl := hsl.out k (by rw [← hn.out]; omega)
      have hok : off + k < (setBy bs off v k).length := by rw [hAl, ← hn.out]; omega
      obtain ⟨cA, fA⟩ := hA (off + k) hok
      have hoI : (off : Int) + (k : Int) < (n : Int) := by omega
      have hoI0 : (0 : Int) ≤ (off : Int) + (k : Int) := by omega
      have htn : ((off : Int) + (k : Int)).toNat = off + k := by omega
      have hob : (off : Int) ≤ 9223372036854775807 := by omega
      have hcst : ((v / 256 ^ k % 256 : Nat) : Int) = (v : Int) / 2 ^ (8 * k) % 256 := by
        rw [show (256 : Nat) ^ k = 2 ^ (8 * k) from by rw [Nat.pow_mul]]; simp
      have hA2 := hA.set (j := off + k) (v := v / 256 ^ k % 256) hok
      rw [hss.out k (by rw [← hn.out]; omega), hcst] at hA2
      have hO2 := hO.setCell (a := ⟨b, off + k, none⟩) (fun _ => rfl) (.int .u8 ((v : Int) / 2 ^ (8 * k) % 256))
      generalize (setBy bs off v k).getD (off + k) 0 = old at *
      replace hA2 := Lib.hid hA2
      replace hO2 := Lib.hid hO2
      replace hcst := Lib.hid hcst
      replace hAl := Lib.hid hAl
      replace hok := Lib.hid hok
      clear hA hO
      go_wp2_with fail
      exact ⟨⟨k + 1, by omega, rfl, hA2.out, hO2.out⟩, by simp [intOf]; omega⟩
    · obtain rfl : k = 8 := by omega
      have hx := Lib.hid (hfin.out wr hA hO)
      clear hA hO
      go_wp2_with fail
      exact bodyPost_end (results_none rfl _ _ _) rfl hx.out
/-- copy of a string into a row that has just been made: as many bytes as it holds. -/
theorem run_copy_made {P : Program} (w : World) (dT sT ty elem : TypeId) (n c : Nat) (s : ByteArray) (cur : Array Value) (hu : P.underlying dT = some (.slice elem)) (hs : (P.info? elem).map (·.size) = some 1) (hc : cur.size = n) :
    (Builtin.copy_ #[dT, sT] ty #[.slice (some ⟨w.heap.size, 0, none⟩) n c, .string s]).run P (w.alloc (.cells cur elem)) =
      .ok (goInt (Nat.min s.size n)) (w.alloc (.cells (Lib.byteCells (s.data.toList.take n) ++ cur.toList.drop (Nat.min s.size n)).toArray elem)) := by
  have hlen : (Lib.byteCells (s.data.toList.take n)).length = Nat.min s.size n := by rw [Lib.byteCells_length, List.length_take, ← Lib.size_eq]; exact Nat.min_comm _ _
  have hg : (w.alloc (.cells cur elem)).heap[w.heap.size]? = some (.cells cur elem (0, 0)) := heap_alloc_new
  have hst := run_storeCells_at P w.heap.size 0 elem (Lib.byteCells (s.data.toList.take n)) 0 cur (w.alloc (.cells cur elem)) hg (by rw [hlen]; have : s.size.min n ≤ n := Nat.min_le_right s.size n; omega) (Lib.byteCells_one _)
  have htk : List.take (Nat.min s.size n) (List.map (fun b : UInt8 => Value.int IntKind.u8 (b.toNat : Int)) s.data.toList) = Lib.byteCells (s.data.toList.take n) := by
    show _ = List.map _ (List.take n s.data.toList)
    rw [List.map_take]
    rcases Nat.le_total s.size n with h | h
    · rw [show Nat.min s.size n = s.size from Nat.min_eq_left h, List.take_of_length_le (by rw [List.length_map, ← Lib.size_eq]; exact Nat.le_refl _), List.take_of_length_le (by rw [List.length_map, ← Lib.size_eq]; exact h)]
    · rw [show Nat.min s.size n = n from Nat.min_eq_right h]
  rw [hlen] at hst
  simp only [Nat.add_zero, Nat.zero_add, List.take_zero, List.nil_append] at hst
  rw [World.setRow_alloc_new] at hst
  cases hq : P.info? elem with
  | none => simp [hq] at hs
  | some i =>
    simp [Builtin.copy_, run_underlying hu, Builtin.lenOf, Builtin.firstCells, sizeOf, typeInfo, hq]
    have e1 : min s.size n = Nat.min s.size n := rfl
    first
      | (rw [htk, hst]; simp [Result.andThen])
      | (rw [e1, htk, hst]; simp [Result.andThen])
      | (simp only [e1, htk, hst]; simp [Result.andThen])
theorem wpList_copyS {P : Program} {w : World} {ops : Array Oper} {rest : List Oper} {o : Oper} {a : Act} {Q : Exit → Act → World → Prop} (hgd : o.guard = none) (d s : Operand) (t t' : TypeId)
    (ho : o.op = .call { callee := .builtin .copy, args := #[d, s], argTypes := #[t, t'] }) (v u : Value) (hd : a.eval d = v) (hs : a.eval s = u) {v' : Value} {w' : World}
    (hr : (Builtin.copy_ #[t, t'] o.type #[v, u]).run P w = .ok v' w') (h : wpList P ops Q rest (a.put o.dst v') w') : wpList P ops Q (o :: rest) a w := by
  refine wpList_plain hgd fun K hK => ?_
  unfold Oper.wp execOp
  simp only [ho, resolve, invoke, builtin, Sem.run_bind, Sem.run_pure, Result.andThen_ok, List.map_toArray, List.map_cons, List.map_nil, hd, hs, hr]
  exact hK _ _ h
end Go.Proofs.Ytjmdibgncaljaaa.Dev
