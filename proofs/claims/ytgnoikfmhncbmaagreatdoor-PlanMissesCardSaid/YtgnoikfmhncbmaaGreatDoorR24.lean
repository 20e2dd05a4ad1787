/- Walks: Hash, the reference's rank and Compare. Walks: Key, and the reference's Key. -/
import Derived.Test.YtgnoikfmhncbmaaGreatDoorR19
import Derived.Test.YtgnoikfmhncbmaaGreatDoorR6
import Derived.Test.YtgnoikfmhncbmaaGreatDoorR3
import Derived.Laws.IdiomStrings
set_option linter.unusedVariables false
set_option linter.unusedSimpArgs false
namespace Go.Proofs.YtgnoikfmhncbmaaGreatDoor
open Go.RowKit Go.Lib

def hstep (h : Int) (c : Nat) : Int := bits .xor .u64 h (c : Int) * 1099511628211 % 18446744073709551616
def hashP (l : List Nat) : Int := l.foldl hstep 14695981039346656037
theorem hash_take (l : List Nat) (k : Nat) (h : k < l.length) : hashP (l.take (k + 1)) = hstep (hashP (l.take k)) (l.getD k 0) := by
  rw [take_getD l k 0 h]
  unfold hashP
  rw [List.foldl_append]; rfl
theorem hash_bd (l : List Nat) (k : Nat) : 0 ≤ hashP (l.take k) ∧ hashP (l.take k) < 18446744073709551616 := by
  induction k with
  | zero =>
    have e : hashP (l.take 0) = 14695981039346656037 := by simp [hashP]
    rw [e]; exact ⟨by decide, by decide⟩
  | succ k ih =>
    by_cases h : k < l.length
    · rw [hash_take l k h]
      unfold hstep
      generalize bits .xor .u64 (hashP (l.take k)) ((l.getD k 0 : Nat) : Int) = x
      omega
    · have : l.take (k + 1) = l.take k := by rw [List.take_of_length_le (by omega), List.take_of_length_le (by omega)]
      rw [this]; exact ih
set_option maxHeartbeats 1000000 in
theorem hash_any (l : List Nat) (hl : l.length ≤ 1000000) (hb : ∀ x ∈ l, x < 256) (a : Option Addr) (c : Nat) (w : World) (hr : Rd w (.slice a l.length c) l.length (bcells l)) :
    Calls Tryz.prog 106 #[.slice a l.length c] w (fun e w' => e = .returned (.int .u64 (hashP l)) ∧ w = w') := by
  go_enter Tryz.func106, Tryz.ntmps106
  go_wp2_with fail
  go_loop [3, 8] (fun h i => ∃ k : Nat, k ≤ l.length ∧ i = .int .i64 k ∧ h = .int .u64 (hashP (l.take k))) (fun _ i => l.length - (RowKit.intOf i).toNat)
  case atStart => exact ⟨0, by omega, rfl, rfl⟩
  case round =>
    obtain ⟨k, hk, rfl, rfl⟩ := hrel
    by_cases hlt : k < l.length
    · have hlI : (k : Int) < l.length := by omega
      obtain ⟨bl, ol, cl, ea, fa⟩ := hr.cells (by omega)
      simp only [Value.slice.injEq, true_and] at ea
      obtain ⟨rfl, hcap⟩ := ea
      replace hcap := Lib.hid hcap
      have c0 : w.cell? ⟨bl, ol + k, none⟩ = _ := fa k _ (bcells_get l k hlt)
      have hx := hb _ (List.mem_of_getElem? (get_lt 0 hlt))
      have hh := hash_take l k hlt
      obtain ⟨h1, h2⟩ := hash_bd l k
      generalize l.getD k 0 = x at *
      generalize hashP (l.take k) = h at *
      unfold hstep at hh
      replace hh := Lib.hid hh
      clear fa
      go_wp2_with fail
      go_round
      case rel => exact ⟨k + 1, by omega, by go_num, by rw [hh.out, IntKind.wrap_u64]⟩
      case measure => simp [RowKit.intOf]; omega
    · have hkI : ¬ (k : Int) < l.length := by omega
      have hke : hashP (l.take k) = hashP l := by rw [List.take_of_length_le (by omega)]
      replace hke := Lib.hid hke
      clear hr
      go_wp2_with fail
      go_ret
      exact ⟨ret1_eq (congrArg (Value.int .u64) hke.out), rfl⟩
theorem rank_any (ta : Nat) (na : Bool) (ia : Int) (xa : ByteArray) (ba : Bool) (w : World) : Calls Tryz.prog 76 #[.agg #[.int .i64 (ta : Int), .bool na, .int .i64 ia, .string xa, .bool ba]] w (RPost w (.int .i64 (rankV ⟨ta, na, ia, xa, ba⟩))) := by
  have hN := Has.new w [.int .i64 (ta : Int), .bool na, .int .i64 ia, .string xa, .bool ba] 33
  have n1 := hN.cell (o := 1) rfl
  have n2 := hN.cell (o := 2) rfl
  have n4 := hN.cell (o := 4) rfl
  have hB : Below w.heap.size w (w.alloc (.cells #[.int .i64 (ta : Int), .bool na, .int .i64 ia, .string xa, .bool ba] 33)) := (Below.refl _ _).alloc (Nat.le_refl _) _
  replace hB := Lib.hid hB
  clear hN
  cases na with
  | true =>
    go_enter Tryz.func76, Tryz.ntmps76
    go_wp2_with fail
    go_ret
    exact ⟨rfl, hB.out⟩
  | false =>
    cases ba with
    | true =>
      go_enter Tryz.func76, Tryz.ntmps76
      go_wp2_with fail
      go_ret
      exact ⟨rfl, hB.out⟩
    | false =>
      go_enter Tryz.func76, Tryz.ntmps76
      go_wp2_with fail
      go_ret
      exact ⟨rfl, hB.out⟩
end Go.Proofs.YtgnoikfmhncbmaaGreatDoor

namespace Go.Proofs.YtgnoikfmhncbmaaGreatDoor
open Go.RowKit Go.Lib
set_option linter.unusedVariables false

def keyE (v : RV) : Nat := if formP v = 0 then 0 else 16
def hashT (s : ByteArray) : Int := hashP (natsOf s.data.toList)
def keyX (v : RV) : Int := if formP v = 0 then (if v.nl then 0 else if v.ty = 1 then v.n + 2147483648 else if v.ty = 2 then hashT v.tx % 4294967296 else 1 + b2i v.b) else 0
theorem u32_mod (x : Int) : IntKind.u32.wrap x = x % 4294967296 := IntKind.wrap_u32' x

theorem rd_conv (w : World) (s : ByteArray) (cap : Nat) (fz : Nat × Nat) : Rd (w.drew.alloc (.cells (bytesRow s cap) 5 fz)) (.slice (some ⟨w.heap.size, 0, none⟩) (natsOf s.data.toList).length cap) (natsOf s.data.toList).length (bcells (natsOf s.data.toList)) := by
  refine ⟨_, cap, rfl, .inr ⟨w.heap.size, 0, rfl, fun j u hj => ?_⟩⟩
  have hl : (bcells (natsOf s.data.toList)).length = s.data.size := by simp [bcells, natsOf]
  have hj2 : j < s.data.size := by
    rcases Nat.lt_or_ge j s.data.size with h | h
    · exact h
    · rw [List.getElem?_eq_none (by omega)] at hj; cases hj
  have hh : (w.drew.alloc (.cells (bytesRow s cap) 5 fz)).heap[w.heap.size]? = some (.cells (bytesRow s cap) 5 fz) := by
    show (w.heap.push _)[w.heap.size]? = _
    simp
  unfold World.cell?
  simp only [hh, Nat.zero_add]
  have := bytesRow_at s cap j hj2
  have e2 : u = .int .u8 (s.data[j].toNat : Int) := by
    have h3 := bcells_get (natsOf s.data.toList) j (by simp [natsOf]; exact hj2)
    rw [hj] at h3
    injection h3 with h3
    rw [h3]
    have h4 : s.data[j]? = some s.data[j] := Array.getElem?_eq_getElem hj2
    simp [natsOf, List.getD, h4]
  rw [e2]
  simpa using this
set_option maxHeartbeats 4000000 in
theorem key_any (ta : Nat) (na : Bool) (ia : Int) (xa : ByteArray) (ba : Bool) (hsa : xa.size ≤ 9223372036854775807) (w : World) (hE : Env w) :
    Calls Tryz.prog 91 #[.agg #[.int .u8 (ta : Int), .bool na, .int .i64 ia, .string xa, .bool ba]] w (RPost w (.tuple #[.int .u32 (keyX ⟨ta, na, ia, xa, ba⟩), .int .i64 (keyE ⟨ta, na, ia, xa, ba⟩ : Nat)])) := by
  obtain ⟨W, hW⟩ : ∃ W, W = w.alloc (.cells #[.int .u8 (ta : Int), .bool na, .int .i64 ia, .string xa, .bool ba] 28) := ⟨_, rfl⟩
  have hA : Has W w.heap.size [.int .u8 (ta : Int), .bool na, .int .i64 ia, .string xa, .bool ba] 28 := by rw [hW]; exact Has.new w _ 28
  have hBW : Below w.heap.size w W := by rw [hW]; exact (Below.refl _ _).alloc (Nat.le_refl _) _
  have hva := valid1_any ta na ia xa ba hsa W (hE.below hBW)
  have hfin : ∀ (x : Int) (e : Nat), keyX ⟨ta, na, ia, xa, ba⟩ = x → keyE ⟨ta, na, ia, xa, ba⟩ = e → ∀ w', Below W.heap.size W w' → RPost w (.tuple #[.int .u32 (keyX ⟨ta, na, ia, xa, ba⟩), .int .i64 (keyE ⟨ta, na, ia, xa, ba⟩ : Nat)]) (.returned (.tuple #[.int .u32 x, .int .i64 (e : Int)])) w' := by
    intro x e h1 h2 w' hb
    rw [h1, h2]
    exact ⟨rfl, hBW.trans (hb.mono hBW.size)⟩
  have hX : keyX ⟨ta, na, ia, xa, ba⟩ = if formP ⟨ta, na, ia, xa, ba⟩ = 0 then (if na then 0 else if ta = 1 then ia + 2147483648 else if ta = 2 then hashT xa % 4294967296 else 1 + b2i ba) else 0 := rfl
  have hEr : keyE ⟨ta, na, ia, xa, ba⟩ = if formP ⟨ta, na, ia, xa, ba⟩ = 0 then 0 else 16 := rfl
  generalize keyX ⟨ta, na, ia, xa, ba⟩ = kx at *
  generalize keyE ⟨ta, na, ia, xa, ba⟩ = ke at *
  generalize RPost w (.tuple #[.int .u32 kx, .int .i64 (ke : Nat)]) = post at *
  have kA := fun w' (hb : Below W.heap.size W w') => hA.only (Only.of_below hb) (Nat.not_le.2 hA.lt)
  have a0 := hA.cell (o := 0) rfl
  have a1 := hA.cell (o := 1) rfl
  have a2 := hA.cell (o := 2) rfl
  have a3 := hA.cell (o := 3) rfl
  have a4 := hA.cell (o := 4) rfl
  replace hW := Lib.hid hW
  replace hva := Lib.hid hva
  replace hfin := Lib.hid hfin
  replace kA := Lib.hid kA
  replace hBW := Lib.hid hBW
  clear hA hE
  by_cases hf : formP ⟨ta, na, ia, xa, ba⟩ = 0
  · rw [decide_eq_true hf] at hva
    rw [if_pos hf] at hX hEr
    obtain ⟨⟨t1, t2⟩, n1, x1, c1, ⟨n2, n3⟩, _, sz⟩ := form_parts hf
    simp only at t1 t2 n1 x1 c1 n2 n3 sz
    replace hX := Lib.hid hX
    replace hEr := Lib.hid hEr
    replace hf := Lib.hid hf
    replace n1 := Lib.hid n1
    replace x1 := Lib.hid x1
    replace c1 := Lib.hid c1
    go_enter Tryz.func91, Tryz.ntmps91
    go_upto_region 1 with fail
    rw [← hW.out]
    go_wp2_with fail
    refine hva.out.mono ?_
    rintro e w1 ⟨rfl, hb1⟩
    clear a0 a1 a2 a3 a4 hva
    have ka := kA.out w1 hb1
    have a0 := ka.cell (o := 0) rfl
    have a1 := ka.cell (o := 1) rfl
    have a2 := ka.cell (o := 2) rfl
    have a3 := ka.cell (o := 3) rfl
    have a4 := ka.cell (o := 4) rfl
    clear ka
    cases na with
    | true =>
      have hg := hfin.out 0 0 (by rw [hX.out]; rfl) hEr.out w1 hb1
      replace hg := Lib.hid hg
      clear hb1
      go_wp2_with fail
      first | exact hg.out | (go_ret2; exact hg.out)
    | false =>
      obtain rfl | rfl | rfl : ta = 1 ∨ ta = 2 ∨ ta = 3 := by omega
      · have hg := hfin.out (ia + 2147483648) 0 (by rw [hX.out]; rfl) hEr.out w1 hb1
        have q1 : IntKind.u32.wrap (ia - -2147483648) = ia + 2147483648 := by rw [u32_mod]; omega
        replace hg := Lib.hid hg
        clear hb1
        go_wp2_with fail
        first | exact hg.out | (go_ret2; exact hg.out)
      · have hcv := fun w s => run_bytes_of_string (P := Tryz.prog) w 9 74 5 s Tryz.underlying9 Tryz.underlying74 Tryz.underlying5
        obtain ⟨cp, hcp⟩ : ∃ c, c = grownCap w1 xa.size 0 5 := ⟨_, rfl⟩
        have hln : (natsOf xa.data.toList).length = xa.size := by simp [natsOf]
        have hh := hash_any (natsOf xa.data.toList) (by rw [hln]; omega) (fun x hx => by
          unfold natsOf at hx
          obtain ⟨c, _, rfl⟩ := List.mem_map.1 hx
          exact UInt8.toNat_lt c) _ _ _ (rd_conv w1 xa cp ((bytesRow xa cp).size, (bytesRow xa cp).size + 1))
        rw [hln] at hh
        have hg := hfin.out (hashT xa % 4294967296) 0 (by rw [hX.out]; rfl) hEr.out
        have hbv : Below W.heap.size W (w1.drew.alloc (.cells (bytesRow xa cp) 5 ((bytesRow xa cp).size, (bytesRow xa cp).size + 1))) := hb1.drew.alloc hb1.size _
        replace hg := Lib.hid (hg _ hbv)
        replace hh := Lib.hid hh
        clear hb1 hbv
        go_wp2_with fail
        rw [← hcp]
        refine hh.out.mono ?_
        rintro e w2 ⟨rfl, rfl⟩
        go_wp2_with fail
        rw [← hcp]
        exact hg.out
      · have hn : Calls Tryz.prog 69 #[.bool ba] w1 fun e w' => e = .returned (.int .i64 (b2i ba)) ∧ w1 = w' := number_any ba w1
        have hg := hfin.out (1 + b2i ba) 0 (by rw [hX.out]; rfl) hEr.out w1 hb1
        obtain ⟨n, hne, hn01⟩ : ∃ n, b2i ba = n ∧ (n = 0 ∨ n = 1) := ⟨b2i ba, rfl, by cases ba <;> simp [b2i]⟩
        have q1 : IntKind.u32.wrap (1 + n) = 1 + n := by rw [u32_mod]; omega
        rw [hne] at hn hg
        have hn1 : 0 ≤ n ∧ n ≤ 1 := by omega
        obtain ⟨hn2, hn3⟩ := hn1
        replace hn := Lib.hid hn
        replace hg := Lib.hid hg
        replace hne := Lib.hid hne
        clear hb1 hn01
        go_wp2_with fail
        refine hn.out.mono ?_
        rintro e w2 ⟨rfl, rfl⟩
        go_wp2_with fail
        exact hg.out
  · rw [decide_eq_false hf] at hva
    rw [if_neg hf] at hX hEr
    have hg := hfin.out 0 16 hX hEr
    replace hX := Lib.hid hX
    replace hEr := Lib.hid hEr
    replace hf := Lib.hid hf
    replace hg := Lib.hid hg
    go_enter Tryz.func91, Tryz.ntmps91
    go_upto_region 1 with fail
    rw [← hW.out]
    go_wp2_with fail
    refine hva.out.mono ?_
    rintro e w1 ⟨rfl, hb1⟩
    have hg2 := hg.out w1 hb1
    replace hg2 := Lib.hid hg2
    clear hb1
    go_wp2_with fail
    first | exact hg2.out | (go_ret2; exact hg2.out)

theorem btS_nats (s : ByteArray) (i : Nat) : (natsOf s.data.toList).getD i 0 = btS s i := by
  unfold natsOf btS
  rw [List.getD, List.getElem?_map, List.getD]
  cases s.data.toList[i]? <;> rfl
end Go.Proofs.YtgnoikfmhncbmaaGreatDoor
