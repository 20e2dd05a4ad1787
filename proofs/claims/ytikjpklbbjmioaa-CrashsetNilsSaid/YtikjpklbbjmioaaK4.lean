/- crashset: an image of bytes; a word's bytes laid one by one. -/
import Derived.Test.YtikjpklbbjmioaaK3
import Derived.Test.YtikjpklbbjmioaaF2
import Derived.Laws.CopyRow
namespace Go.Proofs.Ytikjpklbbjmioaa
open Go.RowKit Go.Maps
variable {w : World} {F : Own} {o T : Nat} {R : Dv} {L : Lay}

/-! ### plain -/
def setBy (bs : List Nat) (off v b : Nat) : List Nat := bs.take off ++ byteTo v b ++ bs.drop (off + b)
theorem setBy_len (bs : List Nat) (off v b : Nat) (h : off + b ≤ bs.length) : (setBy bs off v b).length = bs.length := by
  unfold setBy; rw [List.length_append, List.length_append, List.length_take, byteTo_len, List.length_drop]; omega
theorem setBy_zero (bs : List Nat) (off v : Nat) : setBy bs off v 0 = bs := by
  unfold setBy; simp [byteTo]
theorem setBy_get (bs : List Nat) (off v b i : Nat) (h : off + b ≤ bs.length) : (setBy bs off v b)[i]? = if off ≤ i ∧ i < off + b then some (v / 256 ^ (i - off) % 256) else bs[i]? := by
  unfold setBy
  have h1 : (bs.take off).length = off := by rw [List.length_take]; omega
  by_cases c1 : i < off
  · rw [if_neg (by omega), List.append_assoc, List.getElem?_append_left (by omega), List.getElem?_take_of_lt c1]
  · by_cases c2 : i < off + b
    · rw [if_pos ⟨by omega, c2⟩, List.append_assoc, List.getElem?_append_right (by omega), h1, List.getElem?_append_left (by rw [byteTo_len]; omega), byteTo_get, if_pos (by omega)]
    · rw [if_neg (by omega), List.getElem?_append_right (by rw [List.length_append, h1, byteTo_len]; omega), List.length_append, h1, byteTo_len, List.getElem?_drop]
      congr 1; omega
theorem setBy_step (bs : List Nat) (off v b : Nat) (h : off + b < bs.length) : (setBy bs off v b).set (off + b) (v / 256 ^ b % 256) = setBy bs off v (b + 1) := by
  apply List.ext_getElem?
  intro i
  rw [List.getElem?_set, setBy_len _ _ _ _ (by omega), setBy_get _ _ _ _ _ (by omega), setBy_get _ _ _ _ _ (by omega)]
  by_cases e : off + b = i
  · rw [if_pos e, if_pos (by omega), if_pos (by omega)]; rw [show i - off = b by omega]
  · rw [if_neg e]
    by_cases c : off ≤ i ∧ i < off + b
    · rw [if_pos c, if_pos (by omega)]
    · rw [if_neg c, if_neg (by omega)]
theorem setBy_full (ws : List Nat) (off v : Nat) (h8 : off % 8 = 0) (hl : off / 8 < ws.length) : setBy (bytesL ws) off v 8 = bytesL (setA ws (off, v)) := by
  have hb : (bytesL ws).length = ws.length * 8 := bytesL_len ws
  apply List.ext_getElem?
  intro i
  rw [setBy_get _ _ _ _ _ (by omega), bytesL_get2, bytesL_get2]
  unfold setA
  rw [List.length_set]
  by_cases c : off ≤ i ∧ i < off + 8
  · have e1 : i / 8 = off / 8 := by omega
    have e2 : i % 8 = i - off := by omega
    rw [if_pos c, if_pos (by omega), e1, e2, List.getD_eq_getElem?_getD, List.getElem?_set_self (by omega), pow_bytes]; rfl
  · rw [if_neg c]
    by_cases c2 : i < ws.length * 8
    · rw [if_pos c2, if_pos c2, List.getD_eq_getElem?_getD, List.getD_eq_getElem?_getD, List.getElem?_set_ne (by omega)]
    · rw [if_neg c2, if_neg c2]
theorem byteTo_256 (x b : Nat) : ∀ y ∈ byteTo x b, y < 256 := by
  intro y hy; unfold byteTo at hy; obtain ⟨i, _, rfl⟩ := List.mem_map.1 hy; exact Nat.mod_lt _ (by omega)
theorem strOf_size (bs : List Nat) : (strOf bs).size = bs.length := by simp [strOf, ByteArray.size]
theorem strOf_inj {a b : List Nat} (ha : ∀ x ∈ a, x < 256) (hb : ∀ x ∈ b, x < 256) (h : strOf a = strOf b) : a = b := by
  have h1 : a.map UInt8.ofNat = b.map UInt8.ofNat := by
    have := congrArg (fun s => s.data.toList) h
    simpa [strOf] using this
  have h2 : ∀ l : List Nat, (∀ x ∈ l, x < 256) → (l.map UInt8.ofNat).map UInt8.toNat = l := fun l hl => by
    rw [List.map_map]
    conv => rhs; rw [← List.map_id l]
    apply List.map_congr_left
    intro x hx
    show (UInt8.ofNat x).toNat = x
    exact UInt8.toNat_ofNat_of_lt' (by simpa using hl x hx)
  rw [← h2 a ha, ← h2 b hb, h1]
/-- copy of a whole row over a whole block. -/
theorem wpList_copyAll {P : Program} {w : World} {ops : Array Oper} {rest : List Oper} {o : Oper} {a : Act} {Q : Exit → Act → World → Prop} (hgd : o.guard = none) (d s : Operand) (dT sT : TypeId)
    (ho : o.op = .call { callee := .builtin .copy, args := #[d, s], argTypes := #[dT, sT] }) (elem : TypeId) (hu : P.underlying dT = some (.slice elem)) (hsz : (P.info? elem).map (·.size) = some 1)
    (g n dCap sCap : Nat) (ad : Addr) (hd : a.eval d = .slice (some ⟨g, 0, none⟩) n dCap) (hs : a.eval s = .slice (some ad) n sCap) (xs cs : List Value) (T : TypeId) (hH : Has w g xs T) (hxn : xs.length = n)
    (hn : cs.length = n) (hsrc : ∀ j v, cs[j]? = some v → w.cell? (ad.add j) = some v) (h1 : ∀ v ∈ cs, v.oneCell' = true)
    (h : ∀ w', Has w' g cs T → Only (fun k => k = g) w w' → wpList P ops Q rest (a.put o.dst (goInt n)) w') :
    wpList P ops Q (o :: rest) a w := by
  refine wpList_plain hgd fun K hK => ?_
  have hrun := run_copy_row (P := P) w dT sT o.type elem g 0 n dCap ad n sCap xs.toArray T cs hu hsz hH (by rw [hn]; exact (Nat.min_self n).symm) hsrc (by rw [hn]; simp [hxn]) h1
  unfold Oper.wp execOp
  simp only [ho, resolve, invoke, builtin, Sem.run_bind, Sem.run_pure, Result.andThen_ok, List.map_toArray, List.map_cons, List.map_nil, hd, hs, hrun]
  rw [hn]
  refine hK _ _ (h _ ?_ ⟨rfl, rfl, rfl, by simp [World.setRow], fun k _ hk => setRow_other w g k _ hk⟩)
  have := setRow_heap w g xs.toArray (List.take 0 xs ++ cs ++ List.drop (0 + n) xs).toArray T _ hH
  unfold Has
  rw [this]
  simp [hn, hxn]
/-! ### the image's string -/
def imgV (s : ByteArray) : Value := .agg #[.string s]
def INewPost (w : World) (bs : List Nat) (e : Ending) (w' : World) : Prop := e = .returned (.tuple #[.agg #[.string (strOf bs)], .int .i64 0]) ∧ Below w.heap.size w w'
set_option maxHeartbeats 1000000 in
set_option maxRecDepth 100000 in
theorem inew_any (w : World) (b : Nat) (bs : List Nat) (m : Nat) (hH : Has w b (u8s bs) 5) (h256 : ∀ x ∈ bs, x < 256) (hm : bs.length = m * 64) (h1 : m ≤ 4096) :
    Calls Try.prog 35 #[.slice (some ⟨b, 0, none⟩) bs.length bs.length] w (INewPost w bs) := by
  generalize hpost : INewPost w bs = post
  have hcv := conv_has ((hH.alloc (.cells #[Value.string ⟨#[]⟩] 44))) h256 bs.length
  have hB := (Below.refl _ w).alloc (Nat.le_refl _) (.cells #[Value.string (strOf bs)] 44)
  have hfin : post (.returned (.tuple #[.agg #[.string (strOf bs)], .int .i64 0])) (w.alloc (.cells #[Value.string (strOf bs)] 44)) := by rw [← hpost]; exact ⟨rfl, hB⟩
  have hA2 := Has.new w [.string (strOf bs)] 44
  generalize strOf bs = s at *
  generalize hn : bs.length = n at *
  subst hm
  have e1 : ((m * 64 : Nat) : Int) = (m : Int) * 64 := by simp
  have e2 : (m : Int) * 64 % 64 = 0 := by omega
  have e3 : (m : Int) * 64 / 64 = (m : Int) := by omega
  have e4 : decide ((4096 : Int) < (m : Int)) = false := decide_eq_false (by omega)
  replace hfin := Lib.hid hfin
  go_enter Try.func35, Try.ntmps35
  go_wp2_with fail
  have q0 := hA2.cell (o := 0) rfl
  exact bodyPost_ret (v := .tuple #[.agg #[.string s], .int .i64 0]) (by simp [results, Try.results35, go_sem, q0]) rfl hfin.out
/-- Bytes: what the string holds, in a slice of its own. -/
def BytesRd (w : World) (bs : List Nat) (e : Ending) (w' : World) : Prop := ∃ a c, e = .returned (.slice a bs.length c) ∧ Rd w' (.slice a bs.length c) bs.length (u8s bs) ∧ Below w.heap.size w w'
theorem bytesRow_get (bs : List Nat) (n : Nat) (h256 : ∀ x ∈ bs, x < 256) (i : Nat) (hi : i < bs.length) : (bytesRow (strOf bs) n)[i]? = some (.int .u8 ((bs.getD i 0 : Nat) : Int)) := by
  have hs : (strOf bs).data.size = bs.length := by simp [strOf]
  unfold bytesRow
  rw [Array.getElem?_append_left (by rw [Array.size_map, hs]; exact hi), Array.getElem?_map, Array.getElem?_eq_getElem (by rw [hs]; exact hi)]
  have e : (strOf bs).data[i]'(by rw [hs]; exact hi) = UInt8.ofNat (bs.getD i 0) := by
    simp only [strOf, List.getElem_toArray, List.getElem_map, List.getD_eq_getElem?_getD, List.getElem?_eq_getElem hi, Option.getD_some]
  rw [e]
  show some (Value.int .u8 (((UInt8.ofNat (bs.getD i 0)).toNat : Nat) : Int)) = _
  rw [UInt8.toNat_ofNat_of_lt' (by simpa using h256 _ (List.mem_of_getElem? (get_of_lt 0 hi)))]
theorem rd_bytes (w : World) (bs : List Nat) (n : Nat) (fz : Nat × Nat) (h256 : ∀ x ∈ bs, x < 256) (c : Nat) :
    Rd (w.alloc (.cells (bytesRow (strOf bs) n) 5 fz)) (.slice (some ⟨w.heap.size, 0, none⟩) bs.length c) bs.length (u8s bs) := by
  refine ⟨_, c, rfl, .inr ⟨w.heap.size, 0, rfl, fun j u hu => ?_⟩⟩
  have hj : j < bs.length := by
    rcases Nat.lt_or_ge j bs.length with h | h
    · exact h
    · rw [List.getElem?_eq_none (by simpa [u8s] using h)] at hu; cases hu
  rw [u8s_get _ _ _ (get_of_lt 0 hj)] at hu
  cases hu
  have hn : (w.alloc (.cells (bytesRow (strOf bs) n) 5 fz)).heap[w.heap.size]? = some (.cells (bytesRow (strOf bs) n) 5 fz) := heap_alloc_new
  have hg := bytesRow_get bs n h256 j hj
  rw [Nat.zero_add]
  simp only [World.cell?, hn]
  simpa using hg
set_option maxHeartbeats 1000000 in
theorem ibytes_any (w : World) (bs : List Nat) (h256 : ∀ x ∈ bs, x < 256) : Calls Try.prog 24 #[.agg #[.string (strOf bs)]] w (BytesRd w bs) := by
  generalize hpost : BytesRd w bs = post
  have hcv := run_bytes_of_string (P := Try.prog) (w.alloc (.cells #[.string (strOf bs)] 44)) 9 31 5 (strOf bs) Try.underlying9 Try.underlying31 Try.underlying5
  have hfin : ∀ n c fz, post (.returned (.slice (some ⟨(w.alloc (.cells #[.string (strOf bs)] 44)).heap.size, 0, none⟩) bs.length c)) ((w.alloc (.cells #[.string (strOf bs)] 44)).drew.alloc (.cells (bytesRow (strOf bs) n) 5 fz)) := fun n c fz => by
    rw [← hpost]
    have := rd_bytes (w.alloc (.cells #[.string (strOf bs)] 44)).drew bs n fz h256 c
    refine ⟨_, c, rfl, this, ?_⟩
    exact (((Below.refl _ w).alloc (Nat.le_refl _) _).drew).alloc (by simp) _
  have hsz := strOf_size bs
  rw [hsz] at hcv
  generalize strOf bs = s at *
  generalize grownCap (w.alloc (.cells #[.string s] 44)) bs.length 0 5 = gc at *
  replace hfin := Lib.hid hfin
  replace hsz := Lib.hid hsz
  go_enter Try.func24, Try.ntmps24
  go_wp2_with fail
  have hx := hfin.out gc gc ((bytesRow s gc).size, (bytesRow s gc).size + 1)
  simp only [World.size_alloc] at hx
  exact hx
set_option maxHeartbeats 1000000 in
theorem ilines_any (w : World) (bs : List Nat) (hl : bs.length ≤ 1000000) : Calls Try.prog 29 #[.agg #[.string (strOf bs)]] w fun e w' => e = .returned (.int .i64 ((bs.length / 64 : Nat) : Int)) ∧ Below w.heap.size w w' := by
  have hB := (Below.refl _ w).alloc (Nat.le_refl _) (.cells #[.string (strOf bs)] 44)
  have hsz := strOf_size bs
  have hdv : ((bs.length / 64 : Nat) : Int) = (bs.length : Int) / 64 := by simp
  generalize strOf bs = s at *
  rw [hdv]
  replace hdv := Lib.hid hdv
  go_enter Try.func29, Try.ntmps29
  go_wp2_with fail
  go_ret
  exact ⟨by first | rfl | simp, hB⟩
end Go.Proofs.Ytikjpklbbjmioaa
