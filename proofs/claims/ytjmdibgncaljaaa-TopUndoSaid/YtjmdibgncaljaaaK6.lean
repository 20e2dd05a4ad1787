/- crashset: an image of bytes; a word's bytes laid one by one. crashset: the image of a combination. crashset: At. -/
import Derived.Test.YtjmdibgncaljaaaK3
import Derived.Test.YtjmdibgncaljaaaF3
import Derived.Laws.CopyRow
/-! crashset: an image of bytes; a word's bytes laid one by one. -/
namespace Go.Proofs.Ytjmdibgncaljaaa.Dev
open Go.RowKit Go.Maps
variable {w : World} {F : Own} {o T : Nat} {R : Dv} {L : Lay}

/-! ### plain -/
def setBy (bs : List Nat) (off v b : Nat) : List Nat := bs.take off ++ byteTo v b ++ bs.drop (off + b)
theorem setBy_len (bs : List Nat) (off v b : Nat) (h : off + b ≤ bs.length) : (setBy bs off v b).length = bs.length := by
  unfold setBy; rw [List.length_append, List.length_append, List.length_take, byteTo_len, List.length_drop]; omega
theorem setBy_zero (bs : List Nat) (off v : Nat) : setBy bs off v 0 = bs := by
  unfold setBy; simp [byteTo]
theorem setBy_get (bs : List Nat) (off v b i : Nat) (h : off + b ≤ bs.length) : (setBy bs off v b)[i]? = if off ≤ i ∧ i < off + b then some (v / 256 ^ (i - off) % 256) else bs[i]? := by
  unfold setBy
  have h1 : (bs.take off).length = off := by rw [List.length_take]; omega
  by_cases c1 : i < off
  · rw [if_neg (by omega), List.append_assoc, List.getElem?_append_left (by omega), List.getElem?_take_of_lt c1]
  · by_cases c2 : i < off + b
    · rw [if_pos ⟨by omega, c2⟩, List.append_assoc, List.getElem?_append_right (by omega), h1, List.getElem?_append_left (by rw [byteTo_len]; omega), byteTo_get, if_pos (by omega)]
    · rw [if_neg (by omega), List.getElem?_append_right (by rw [List.length_append, h1, byteTo_len]; omega), List.length_append, h1, byteTo_len, List.getElem?_drop]
      congr 1; omega
theorem setBy_step (bs : List Nat) (off v b : Nat) (h : off + b < bs.length) : (setBy bs off v b).set (off + b) (v / 256 ^ b % 256) = setBy bs off v (b + 1) := by
  apply List.ext_getElem?
  intro i
  rw [List.getElem?_set, setBy_len _ _ _ _ (by omega), setBy_get _ _ _ _ _ (by omega), setBy_get _ _ _ _ _ (by omega)]
  by_cases e : off + b = i
  · rw [if_pos e, if_pos (by omega), if_pos (by omega)]; rw [show i - off = b by omega]
  · rw [if_neg e]
    by_cases c : off ≤ i ∧ i < off + b
    · rw [if_pos c, if_pos (by omega)]
    · rw [if_neg c, if_neg (by omega)]
theorem setBy_full (ws : List Nat) (off v : Nat) (h8 : off % 8 = 0) (hl : off / 8 < ws.length) : setBy (bytesL ws) off v 8 = bytesL (setA ws (off, v)) := by
  have hb : (bytesL ws).length = ws.length * 8 := bytesL_len ws
  apply List.ext_getElem?
  intro i
  rw [setBy_get _ _ _ _ _ (by omega), bytesL_get2, bytesL_get2]
  unfold setA
  rw [List.length_set]
  by_cases c : off ≤ i ∧ i < off + 8
  · have e1 : i / 8 = off / 8 := by omega
    have e2 : i % 8 = i - off := by omega
    rw [if_pos c, if_pos (by omega), e1, e2, List.getD_eq_getElem?_getD, List.getElem?_set_self (by omega), pow_bytes]; rfl
  · rw [if_neg c]
    by_cases c2 : i < ws.length * 8
    · rw [if_pos c2, if_pos c2, List.getD_eq_getElem?_getD, List.getD_eq_getElem?_getD, List.getElem?_set_ne (by omega)]
    · rw [if_neg c2, if_neg c2]
theorem byteTo_256 (x b : Nat) : ∀ y ∈ byteTo x b, y < 256 := by
  intro y hy; unfold byteTo at hy; obtain ⟨i, _, rfl⟩ := List.mem_map.1 hy; exact Nat.mod_lt _ (by omega)
theorem strOf_size (bs : List Nat) : (strOf bs).size = bs.length := by simp [strOf, ByteArray.size]
theorem strOf_inj {a b : List Nat} (ha : ∀ x ∈ a, x < 256) (hb : ∀ x ∈ b, x < 256) (h : strOf a = strOf b) : a = b := by
  have h1 : a.map UInt8.ofNat = b.map UInt8.ofNat := by
    have := congrArg (fun s => s.data.toList) h
    simpa [strOf] using this
  have h2 : ∀ l : List Nat, (∀ x ∈ l, x < 256) → (l.map UInt8.ofNat).map UInt8.toNat = l := fun l hl => by
    rw [List.map_map]
    conv => rhs; rw [← List.map_id l]
    apply List.map_congr_left
    intro x hx
    show (UInt8.ofNat x).toNat = x
    exact UInt8.toNat_ofNat_of_lt' (by simpa using hl x hx)
  rw [← h2 a ha, ← h2 b hb, h1]
/-- copy of a whole row over a whole block. -/
theorem wpList_copyAll {P : Program} {w : World} {ops : Array Oper} {rest : List Oper} {o : Oper} {a : Act} {Q : Exit → Act → World → Prop} (hgd : o.guard = none) (d s : Operand) (dT sT : TypeId)
    (ho : o.op = .call { callee := .builtin .copy, args := #[d, s], argTypes := #[dT, sT] }) (elem : TypeId) (hu : P.underlying dT = some (.slice elem)) (hsz : (P.info? elem).map (·.size) = some 1)
    (g n dCap sCap : Nat) (ad : Addr) (hd : a.eval d = .slice (some ⟨g, 0, none⟩) n dCap) (hs : a.eval s = .slice (some ad) n sCap) (xs cs : List Value) (T : TypeId) (hH : Has w g xs T) (hxn : xs.length = n)
    (hn : cs.length = n) (hsrc : ∀ j v, cs[j]? = some v → w.cell? (ad.add j) = some v) (h1 : ∀ v ∈ cs, v.oneCell' = true)
    (h : ∀ w', Has w' g cs T → Only (fun k => k = g) w w' → wpList P ops Q rest (a.put o.dst (goInt n)) w') :
    wpList P ops Q (o :: rest) a w := by
  refine wpList_plain hgd fun K hK => ?_
  have hrun := run_copy_row (P := P) w dT sT o.type elem g 0 n dCap ad n sCap xs.toArray T cs hu hsz hH (by rw [hn]; exact (Nat.min_self n).symm) hsrc (by rw [hn]; simp [hxn]) h1
  unfold Oper.wp execOp
  simp only [ho, resolve, invoke, builtin, Sem.run_bind, Sem.run_pure, Result.andThen_ok, List.map_toArray, List.map_cons, List.map_nil, hd, hs, hrun]
  rw [hn]
  refine hK _ _ (h _ ?_ ⟨rfl, rfl, rfl, by simp [World.setRow], fun k _ hk => setRow_other w g k _ hk⟩)
  have := setRow_heap w g xs.toArray (List.take 0 xs ++ cs ++ List.drop (0 + n) xs).toArray T _ hH
  unfold Has
  rw [this]
  simp [hn, hxn]
/-! ### the image's string -/
def imgV (s : ByteArray) : Value := .agg #[.string s]
def INewPost (w : World) (bs : List Nat) (e : Ending) (w' : World) : Prop := e = .returned (.tuple #[.agg #[.string (strOf bs)], .int .i64 0]) ∧ Below w.heap.size w w'
set_option maxHeartbeats 1000000 in
set_option maxRecDepth 100000 in
theorem inew_any (w : World) (b : Nat) (bs : List Nat) (m : Nat) (hH : Has w b (u8s bs) 5) (h256 : ∀ x ∈ bs, x < 256) (hm : bs.length = m * 64) (h1 : m ≤ 4096) :
    Calls Try.prog 15 #[.slice (some ⟨b, 0, none⟩) bs.length bs.length] w (INewPost w bs) := by
  generalize hpost : INewPost w bs = post
  have hcv := conv_has ((hH.alloc (.cells #[Value.string ⟨#[]⟩] 53))) h256 bs.length
  have hB := (Below.refl _ w).alloc (Nat.le_refl _) (.cells #[Value.string (strOf bs)] 53)
  have hfin : post (.returned (.tuple #[.agg #[.string (strOf bs)], .int .i64 0])) (w.alloc (.cells #[Value.string (strOf bs)] 53)) := by rw [← hpost]; exact ⟨rfl, hB⟩
  have hA2 := Has.new w [.string (strOf bs)] 53
  generalize strOf bs = s at *
  generalize hn : bs.length = n at *
  subst hm
  have e1 : ((m * 64 : Nat) : Int) = (m : Int) * 64 := by simp
  have e2 : (m : Int) * 64 % 64 = 0 := by omega
  have e3 : (m : Int) * 64 / 64 = (m : Int) := by omega
  have e4 : decide ((4096 : Int) < (m : Int)) = false := decide_eq_false (by omega)
  replace hfin := Lib.hid hfin
  go_enter Try.func15, Try.ntmps15
  go_wp2_with fail
  have q0 := hA2.cell (o := 0) rfl
  exact bodyPost_ret (v := .tuple #[.agg #[.string s], .int .i64 0]) (by simp [results, Try.results15, go_sem, q0]) rfl hfin.out
/-- Bytes: what the string holds, in a slice of its own. -/
def BytesRd (w : World) (bs : List Nat) (e : Ending) (w' : World) : Prop := ∃ a c, e = .returned (.slice a bs.length c) ∧ Rd w' (.slice a bs.length c) bs.length (u8s bs) ∧ Below w.heap.size w w'
theorem bytesRow_get (bs : List Nat) (n : Nat) (h256 : ∀ x ∈ bs, x < 256) (i : Nat) (hi : i < bs.length) : (bytesRow (strOf bs) n)[i]? = some (.int .u8 ((bs.getD i 0 : Nat) : Int)) := by
  have hs : (strOf bs).data.size = bs.length := by simp [strOf]
  unfold bytesRow
  rw [Array.getElem?_append_left (by rw [Array.size_map, hs]; exact hi), Array.getElem?_map, Array.getElem?_eq_getElem (by rw [hs]; exact hi)]
  have e : (strOf bs).data[i]'(by rw [hs]; exact hi) = UInt8.ofNat (bs.getD i 0) := by
    simp only [strOf, List.getElem_toArray, List.getElem_map, List.getD_eq_getElem?_getD, List.getElem?_eq_getElem hi, Option.getD_some]
  rw [e]
  show some (Value.int .u8 (((UInt8.ofNat (bs.getD i 0)).toNat : Nat) : Int)) = _
  rw [UInt8.toNat_ofNat_of_lt' (by simpa using h256 _ (List.mem_of_getElem? (get_of_lt 0 hi)))]
theorem rd_bytes (w : World) (bs : List Nat) (n : Nat) (fz : Nat × Nat) (h256 : ∀ x ∈ bs, x < 256) (c : Nat) :
    Rd (w.alloc (.cells (bytesRow (strOf bs) n) 5 fz)) (.slice (some ⟨w.heap.size, 0, none⟩) bs.length c) bs.length (u8s bs) := by
  refine ⟨_, c, rfl, .inr ⟨w.heap.size, 0, rfl, fun j u hu => ?_⟩⟩
  have hj : j < bs.length := by
    rcases Nat.lt_or_ge j bs.length with h | h
    · exact h
    · rw [List.getElem?_eq_none (by simpa [u8s] using h)] at hu; cases hu
  rw [u8s_get _ _ _ (get_of_lt 0 hj)] at hu
  cases hu
  have hn : (w.alloc (.cells (bytesRow (strOf bs) n) 5 fz)).heap[w.heap.size]? = some (.cells (bytesRow (strOf bs) n) 5 fz) := heap_alloc_new
  have hg := bytesRow_get bs n h256 j hj
  rw [Nat.zero_add]
  simp only [World.cell?, hn]
  simpa using hg
set_option maxHeartbeats 1000000 in
theorem ibytes_any (w : World) (bs : List Nat) (h256 : ∀ x ∈ bs, x < 256) : Calls Try.prog 19 #[.agg #[.string (strOf bs)]] w (BytesRd w bs) := by
  generalize hpost : BytesRd w bs = post
  have hcv := run_bytes_of_string (P := Try.prog) (w.alloc (.cells #[.string (strOf bs)] 53)) 9 28 5 (strOf bs) Try.underlying9 Try.underlying28 Try.underlying5
  have hfin : ∀ n c fz, post (.returned (.slice (some ⟨(w.alloc (.cells #[.string (strOf bs)] 53)).heap.size, 0, none⟩) bs.length c)) ((w.alloc (.cells #[.string (strOf bs)] 53)).drew.alloc (.cells (bytesRow (strOf bs) n) 5 fz)) := fun n c fz => by
    rw [← hpost]
    have := rd_bytes (w.alloc (.cells #[.string (strOf bs)] 53)).drew bs n fz h256 c
    refine ⟨_, c, rfl, this, ?_⟩
    exact (((Below.refl _ w).alloc (Nat.le_refl _) _).drew).alloc (by simp) _
  have hsz := strOf_size bs
  rw [hsz] at hcv
  generalize strOf bs = s at *
  generalize grownCap (w.alloc (.cells #[.string s] 53)) bs.length 0 5 = gc at *
  replace hfin := Lib.hid hfin
  replace hsz := Lib.hid hsz
  go_enter Try.func19, Try.ntmps19
  go_wp2_with fail
  have hx := hfin.out gc gc ((bytesRow s gc).size, (bytesRow s gc).size + 1)
  simp only [World.size_alloc] at hx
  exact hx
set_option maxHeartbeats 1000000 in
theorem ilines_any (w : World) (bs : List Nat) (hl : bs.length ≤ 1000000) : Calls Try.prog 94 #[.agg #[.string (strOf bs)]] w fun e w' => e = .returned (.int .i64 ((bs.length / 64 : Nat) : Int)) ∧ Below w.heap.size w w' := by
  have hB := (Below.refl _ w).alloc (Nat.le_refl _) (.cells #[.string (strOf bs)] 53)
  have hsz := strOf_size bs
  have hdv : ((bs.length / 64 : Nat) : Int) = (bs.length : Int) / 64 := by simp
  generalize strOf bs = s at *
  rw [hdv]
  replace hdv := Lib.hid hdv
  go_enter Try.func94, Try.ntmps94
  go_wp2_with fail
  go_ret
  exact ⟨by first | rfl | simp, hB⟩
end Go.Proofs.Ytjmdibgncaljaaa.Dev

/-! crashset: the image of a combination. -/
namespace Go.Proofs.Ytjmdibgncaljaaa.Dev
open Go.RowKit Go.Maps
variable {w : World} {F : Own} {o T : Nat} {R : Dv} {L : Lay}

/-! ### plain -/
def ksJ (R : Dv) (ks : List Nat) (j l : Nat) : Nat := if (dirtyTo R l).length < j then kOf R ks l else 0
theorem kOf_at {ks : List Nat} {j n : Nat} (hd : (dirtyL R)[j]? = some n) (hj : j < ks.length) : kOf R ks n = ks.getD j 0 := by
  obtain ⟨h1, _, h3⟩ := dirty_at hd
  unfold kOf; rw [if_pos h3, h1, if_pos hj]
theorem ksJ_step (h : R.Ok T) (ks : List Nat) {j n : Nat} (hd : (dirtyL R)[j]? = some n) (hj : j < ks.length) : crashW R (ksJ R ks (j + 1)) = ((R.line n).hist.take (ks.getD j 0)).foldl setA (crashW R (ksJ R ks j)) := by
  obtain ⟨h1, h2, h3⟩ := dirty_at hd
  have := crash_set h (ksJ R ks j) (ksJ R ks (j + 1)) n h2 ?_ ?_
  · have e : ksJ R ks (j + 1) n = ks.getD j 0 := by unfold ksJ; rw [h1, if_pos (by omega), kOf_at hd hj]
    rw [e] at this; exact this
  · intro l hl hne
    by_cases hc : 0 < (R.line l).hist.length
    · have : (dirtyTo R l).length ≠ j := by
        intro e
        have h4 := dirty_place hl hc
        rw [e, hd] at h4
        exact hne (Option.some.inj h4).symm
      unfold ksJ
      by_cases hlt : (dirtyTo R l).length < j
      · rw [if_pos (by omega), if_pos hlt]
      · rw [if_neg (by omega), if_neg hlt]
    · have e0 : (R.line l).hist = [] := List.eq_nil_of_length_eq_zero (by omega)
      unfold wordsL; rw [e0]; simp
  · unfold ksJ; rw [h1, if_neg (by omega)]
theorem ksJ_zero (R : Dv) (ks : List Nat) : crashW R (ksJ R ks 0) = R.perW := by
  rw [← crashW_zero]; exact crashW_congr _ _ _ (fun l _ => by unfold ksJ; rw [if_neg (by omega)])
theorem ksJ_all (R : Dv) (ks : List Nat) : crashW R (ksJ R ks (dirtyL R).length) = crashW R (kOf R ks) := by
  refine crashW_congr _ _ _ (fun l hl => ?_)
  by_cases hc : 0 < (R.line l).hist.length
  · unfold ksJ; rw [if_pos (dirty_lt hl hc)]
  · have e0 : (R.line l).hist = [] := List.eq_nil_of_length_eq_zero (by omega)
    unfold wordsL; rw [e0]; simp
theorem fold_setA_len (ps : List (Nat × Nat)) : ∀ ws : List Nat, (ps.foldl setA ws).length = ws.length := by
  induction ps with
  | nil => intro ws; rfl
  | cons p ps ih => intro ws; rw [List.foldl_cons, ih]; unfold setA; rw [List.length_set]
/-- The words after the first i stores of a line. -/
def imgTo (X : List Nat) (hs : List (Nat × Nat)) (i : Nat) : List Nat := (hs.take i).foldl setA X
theorem imgTo_len (X : List Nat) (hs : List (Nat × Nat)) (i : Nat) : (imgTo X hs i).length = X.length := fold_setA_len _ _
theorem imgTo_succ (X : List Nat) (hs : List (Nat × Nat)) (i : Nat) (h : i < hs.length) (d : Nat × Nat) : imgTo X hs (i + 1) = setA (imgTo X hs i) (hs.getD i d) := by
  unfold imgTo; rw [take_getD hs i d h, List.foldl_append]; rfl
def CImgPost (w : World) (R : Dv) (ks : List Nat) (e : Ending) (w' : World) : Prop := e = .returned (.agg #[.string (strOf (bytesL (crashW R (kOf R ks))))]) ∧ Below w.heap.size w w'
set_option maxHeartbeats 4000000 in
set_option maxRecDepth 100000 in
theorem cimage_any (hok : R.Ok T) {pv lv hv : Value} (hs : SetSt w R pv lv hv) (ka : Option Addr) (kc : Nat) (ks : List Nat) (hks : Rd w (.slice ka ks.length kc) ks.length (nats ks)) (hkl : ks.length = (dirtyL R).length)
    (hle : ∀ i l : Nat, (dirtyL R)[i]? = some l → ks.getD i 0 ≤ (R.line l).hist.length) : Calls Try.prog 59 #[.agg #[pv, lv, hv], .slice ka ks.length kc] w (CImgPost w R ks) := by
  generalize hpost : CImgPost w R ks = post
  have ht := hok.t
  have hn1 := hok.n1
  have hn2 := hok.n2
  have hdl : (dirtyL R).length ≤ R.lines.length := dirtyTo_len R R.lines.length
  have hstep := fun (j n : Nat) (hd : (dirtyL R)[j]? = some n) (hj : j < ks.length) => ksJ_step hok ks hd hj
  have hwl : ∀ j, (crashW R (ksJ R ks j)).length = R.lines.length * 8 := fun j => crashW_len hok _
  have hps : ∀ (n : Nat), n < R.lines.length → ∀ p ∈ (R.line n).hist, p.1 / 8 < R.lines.length * 8 ∧ p.1 < 262144 ∧ p.1 % 8 = 0 ∧ p.2 < 18446744073709551616 := fun n hn p hp => by
    obtain ⟨q1, q2, q3⟩ := (hok.ln n hn).h p hp; omega
  have hdm : ∀ k, k < (dirtyL R).length → (dirtyL R)[k]? = some ((dirtyL R).getD k 0) ∧ (dirtyL R).getD k 0 < R.lines.length := fun k hk => by
    have h1 := get_of_lt 0 hk
    exact ⟨h1, (dirtyTo_mem (List.mem_of_getElem? h1)).1⟩
  have hhl : ∀ n, n < R.lines.length → (R.line n).hist.length ≤ 100000 := fun n hn => by have := (hok.ln n hn).hl; omega
  have hz := ksJ_zero R ks
  have hall := ksJ_all R ks
  have hpl : R.perW.length = R.lines.length * 8 := by rw [hok.perLen]; omega
  have hnb : (bytesL R.perW).length = R.lines.length * 64 := by rw [bytesL_len, hpl]; omega
  obtain ⟨⟨pb, rfl, hp⟩, ⟨la, lc, rfl, hl⟩, ⟨ha, hc, vs, rfl, hH, hr⟩⟩ := hs
  rw [hnb]
  obtain ⟨w0, hw0⟩ : ∃ w0, w0 = w.alloc (.cells #[.slice (some ⟨pb, 0, none⟩) (R.lines.length * 64) (R.lines.length * 64), .slice la (dirtyL R).length lc, .slice ha (dirtyL R).length hc] 127) := ⟨_, rfl⟩
  obtain ⟨w1, hw1⟩ : ∃ w1, w1 = w0.alloc (.cells #[Value.string ⟨#[]⟩] 53) := ⟨_, rfl⟩
  obtain ⟨w2, hw2⟩ : ∃ w2, w2 = w1.alloc (.cells (Array.replicate (R.lines.length * 64) (.int .u8 0)) 5) := ⟨_, rfl⟩
  have hmk := make1 (P := Try.prog) 28 5 (.int .u8 0) 1 Try.underlying28 infoU8 rfl (R.lines.length * 64) (by omega) (by omega) w1
  have s0 : w0.heap.size = w.heap.size + 1 := by rw [hw0]; simp
  have s1 : w1.heap.size = w.heap.size + 1 + 1 := by rw [hw1]; simp [s0]
  have s2 : w2.heap.size = w.heap.size + 3 := by rw [hw2]; simp [s1]
  have B2 : Below w.heap.size w w2 := by rw [hw2, hw1, hw0]; exact (((Below.refl _ w).alloc (Nat.le_refl _) _).alloc (by simp) _).alloc (by simp; omega) _
  have hS2 : Has w2 w.heap.size [.slice (some ⟨pb, 0, none⟩) (R.lines.length * 64) (R.lines.length * 64), .slice la (dirtyL R).length lc, .slice ha (dirtyL R).length hc] 127 := by
    rw [hw2, hw1, hw0]; exact ((Has.new w [.slice (some ⟨pb, 0, none⟩) (R.lines.length * 64) (R.lines.length * 64), .slice la (dirtyL R).length lc, .slice ha (dirtyL R).length hc] 127).alloc _).alloc _
  have hI2 : Has w2 (w.heap.size + 1) [Value.string ⟨#[]⟩] 53 := by
    rw [hw2, hw1, ← s0]; exact (Has.new w0 [Value.string ⟨#[]⟩] 53).alloc _
  have hP2 : Has w2 (w.heap.size + 1 + 1) (List.replicate (R.lines.length * 64) (.int .u8 0)) 5 := by rw [hw2, ← s1]; exact Has.rep _ _ _ _
  have hp2 := hp.only (Only.of_below B2) (by have := hp.lt; omega)
  have hpl2 := hp.lt
  have hr2 := hr
  have hH2 := hH.2
  have hk2 := hks
  have hsrc : ∀ j v, (u8s (bytesL R.perW))[j]? = some v → w2.cell? ((⟨pb, 0, none⟩ : Addr).add j) = some v := has_news hp2
  have h1c : ∀ v ∈ u8s (bytesL R.perW), v.oneCell' = true := by intro v hv; unfold u8s at hv; obtain ⟨x, _, rfl⟩ := List.mem_map.1 hv; rfl
  have hul : (u8s (bytesL R.perW)).length = R.lines.length * 64 := by unfold u8s; rw [List.length_map, hnb]
  have hrl : (List.replicate (R.lines.length * 64) (Value.int .u8 0)).length = R.lines.length * 64 := by simp
  rw [hw2, hw1, hw0] at hP2 hsrc
  rw [hw1, hw0] at hw2
  rw [hw1, hw0, show ((R.lines.length * 64 : Nat) : Int) = (R.lines.length : Int) * 64 from by simp] at hmk
  have hfin : ∀ ws : List Nat, ws.length = R.lines.length * 8 → ∀ wr, Has wr (w.heap.size + 1 + 1) (u8s (bytesL ws)) 5 → Calls Try.prog 15 #[.slice (some ⟨w.heap.size + 1 + 1, 0, none⟩) (R.lines.length * 64) (R.lines.length * 64)] wr (INewPost wr (bytesL ws)) := fun ws hw wr hH => by
    have hbl : (bytesL ws).length = R.lines.length * 64 := by rw [bytesL_len, hw]; omega
    have := inew_any wr (w.heap.size + 1 + 1) (bytesL ws) R.lines.length hH (bytesL_256 ws) hbl hn2
    rw [hbl] at this; exact this
  replace hmk := Lib.hid hmk
  replace hP2 := Lib.hid hP2
  replace hsrc := Lib.hid hsrc
  replace h1c := Lib.hid h1c
  replace hul := Lib.hid hul
  replace hrl := Lib.hid hrl
  replace hpost := Lib.hid hpost
  replace hstep := Lib.hid hstep
  replace hwl := Lib.hid hwl
  replace hps := Lib.hid hps
  replace hdm := Lib.hid hdm
  replace hhl := Lib.hid hhl
  replace hz := Lib.hid hz
  replace hall := Lib.hid hall
  replace hpl := Lib.hid hpl
  replace hnb := Lib.hid hnb
  replace B2 := Lib.hid B2
  replace hS2 := Lib.hid hS2
  replace hI2 := Lib.hid hI2
  replace hr2 := Lib.hid hr2
  replace hH2 := Lib.hid hH2
  replace hk2 := Lib.hid hk2
  replace hle := Lib.hid hle
  replace hkl := Lib.hid hkl
  replace hw2 := Lib.hid hw2
  replace hfin := Lib.hid hfin
  clear hp hl hH hr hks hp2 hok hw0 hw1 s0 s1
  generalize hds : dirtyL R = ds at *
  generalize hNN : R.lines.length = N at *
  replace hds := Lib.hid hds
  replace hNN := Lib.hid hNN
  have hS3f : ∀ w3, Only (fun k => k = w.heap.size + 1 + 1) w2 w3 → w3.cell? ⟨w.heap.size, 2, none⟩ = some (.slice ha ds.length hc) := fun w3 o3 => (hS2.out.only o3 (by omega)).cell (o := 2) rfl
  replace hS3f := Lib.hid hS3f
  have hmk := hmk.out
  go_enter Try.func59, Try.ntmps59
  have hsz5 : (Try.prog.info? 5).map (·.size) = some 1 := by kernel_rfl
  go_wp2_with (refine wpList_copyAll rfl (.tmp 17) (.tmp 19) 28 28 rfl 5 Try.underlying28 hsz5 (w.heap.size + 1 + 1) (N * 64) (N * 64) (N * 64) ⟨pb, 0, none⟩ rfl rfl _ (u8s (bytesL R.perW)) 5 hP2.out hrl.out hul.out hsrc.out h1c.out ?_; intro w3 hP3 O3; rw [← hw2.out] at O3; have t2 := hS3f.out w3 O3; replace hP3 := Lib.hid hP3; replace O3 := Lib.hid O3)
  clear hmk
  have B3 : Below w.heap.size w w3 := B2.out.trans (O3.out.below (B := w.heap.size) B2.out.size (fun k _ e => by omega))
  have hP3' : Has w3 (w.heap.size + 1 + 1) (u8s (bytesL (crashW R (ksJ R ks 0)))) 5 := by rw [hz.out]; exact hP3.out
  replace hP3' := Lib.hid hP3'
  replace B3 := Lib.hid B3
  go_loopw [6, 7, 24] (fun _ _ iv wr => ∃ j : Nat, j ≤ ds.length ∧ iv = .int .i64 (j : Int) ∧ Has wr (w.heap.size + 1 + 1) (u8s (bytesL (crashW R (ksJ R ks j)))) 5 ∧ Only (fun k => k = w.heap.size + 1 + 1) w2 wr) (fun _ _ iv _ => ds.length - (intOf iv).toNat)
  case atStart => exact ⟨0, Nat.zero_le _, rfl, hP3'.out, O3.out⟩
  case round =>
    clear hP3 hP3' O3 B3 t2
    obtain ⟨j, hj, rfl, hP, hO⟩ := hrel
    by_cases hlt : j < ds.length
    · have hkI : decide ((j : Int) < (ds.length : Int)) = true := decide_eq_true (by omega)
      have hkN : decide (j < ds.length) = true := decide_eq_true hlt
      have hk0 : (0 : Int) ≤ (j : Int) := by omega
      have hkl9 : (j : Int) < (ds.length : Int) := by omega
      have hjk : j < ks.length := by rw [hkl.out]; exact hlt
      have hjkI : (j : Int) < (ks.length : Int) := by omega
      have hBr : Below w.heap.size w wr := B2.out.trans (hO.below (B := w.heap.size) B2.out.size (fun k _ e => by omega))
      obtain ⟨hat, hdN⟩ := hdm.out j hlt
      obtain ⟨xa, xc, hx, hsub⟩ := hH2.out j _ hat
      obtain ⟨bl, ol, cl, ea, fa⟩ := (hr2.out.kept hBr).cells (by omega)
      simp only [Value.slice.injEq, true_and] at ea
      obtain ⟨rfl, ea2⟩ := ea
      replace ea2 := Lib.hid ea2
      have cv := fa _ _ hx
      obtain ⟨bk, ok, ck, ek, fk⟩ := (hk2.out.kept hBr).cells (by omega)
      simp only [Value.slice.injEq, true_and] at ek
      obtain ⟨rfl, ek2⟩ := ek
      replace ek2 := Lib.hid ek2
      have hatk := get_of_lt 0 hjk
      have cks := fk _ _ (nats_get _ _ _ hatk)
      have hml := hle.out j _ hat
      have hst := hstep.out j _ hat hjk
      have hpsd := hps.out _ hdN
      have hhd := hhl.out _ hdN
      have hwlj := hwl.out j
      generalize hd : ds.getD j 0 = d at *
      generalize hm : ks.getD j 0 = m at *
      have hcap : (R.line d).hist.length ≤ xc := by
        rcases hsub.shape with ⟨h1, h2⟩ | ⟨_, _, _, h1, h2, _⟩
        · simp only [Value.slice.injEq] at h1; omega
        · simp only [Value.slice.injEq] at h1; omega
      have hmI : (m : Int) ≤ (xc : Int) := by omega
      have hm0 : (0 : Int) ≤ (m : Int) := by omega
      have hsubw := fun (wx : World) (hb : Below w.heap.size w wx) => (hsub.only (Only.of_below hb) (fun k hk => by have := hsub.lt hk; omega)).rd
      have himg0 : Has wr (w.heap.size + 1 + 1) (u8s (bytesL (imgTo (crashW R (ksJ R ks j)) (R.line d).hist 0))) 5 := hP
      have himgm : imgTo (crashW R (ksJ R ks j)) (R.line d).hist m = crashW R (ksJ R ks (j + 1)) := hst.symm
      have himgl := imgTo_len (crashW R (ksJ R ks j)) (R.line d).hist
      have himgs := fun i h => imgTo_succ (crashW R (ksJ R ks j)) (R.line d).hist i h (0, 0)
      generalize (R.line d).hist = hs at *
      generalize crashW R (ksJ R ks j) = X at *
      replace himg0 := Lib.hid himg0
      replace himgm := Lib.hid himgm
      replace himgl := Lib.hid himgl
      replace himgs := Lib.hid himgs
      replace hsubw := Lib.hid hsubw
      replace hpsd := Lib.hid hpsd
      replace hwlj := Lib.hid hwlj
      replace hat := Lib.hid hat
      replace hatk := Lib.hid hatk
      replace hm := Lib.hid hm
      replace hd := Lib.hid hd
      replace hst := Lib.hid hst
      clear fa fk hx hsub hP
      go_wp2_with fail
      go_loopw [9, 10, 36] (fun _ _ iv wz => ∃ i : Nat, i ≤ m ∧ iv = .int .i64 (i : Int) ∧ Has wz (w.heap.size + 1 + 1) (u8s (bytesL (imgTo X hs i))) 5 ∧ Only (fun k => k = w.heap.size + 1 + 1) w2 wz) (fun _ _ iv _ => m - (intOf iv).toNat)
      case atStart => exact ⟨0, Nat.zero_le _, rfl, himg0.out, hO⟩
      case round =>
        clear himg0 cv cks hBr hO
        obtain ⟨i, hi, rfl, hP, hO⟩ := hrel
        by_cases hlt2 : i < m
        · have hiI : decide ((i : Int) < (m : Int)) = true := decide_eq_true (by omega)
          have hiN : decide (i < m) = true := decide_eq_true hlt2
          have hi0 : (0 : Int) ≤ (i : Int) := by omega
          have hil : (i : Int) < (m : Int) := by omega
          have hBr : Below w.heap.size w wr := B2.out.trans (hO.below (B := w.heap.size) B2.out.size (fun k _ e => by omega))
          obtain ⟨bx, ox, cx, ex, fx⟩ := (hsubw.out wr hBr).cells (by omega)
          simp only [Value.slice.injEq, true_and] at ex
          obtain ⟨rfl, ex2⟩ := ex
          replace ex2 := Lib.hid ex2
          have hpi := get_of_lt ((0, 0) : Nat × Nat) (show i < hs.length by omega)
          obtain ⟨cw0, cw1⟩ := wcells_get hs i _ hpi
          have c0 := fx _ _ cw0
          have c1 := fx _ _ cw1
          rw [← Nat.add_assoc] at c1
          obtain ⟨p1, p2, p3, p4⟩ := hpsd.out _ (List.mem_of_getElem? hpi)
          have hsc := himgs.out i (by omega)
          have hYl := himgl.out i
          rw [hwlj.out] at hYl
          obtain ⟨off, hoff⟩ : ∃ off, off = (hs.getD i (0, 0)).1 := ⟨_, rfl⟩
          obtain ⟨v, hv⟩ : ∃ v, v = (hs.getD i (0, 0)).2 := ⟨_, rfl⟩
          have hpe : hs.getD i (0, 0) = (off, v) := by rw [hoff, hv]
          rw [hpe] at hsc
          rw [← hoff] at c0 p1 p2 p3
          rw [← hv] at c1 p4
          have hful := setBy_full (imgTo X hs i) off v p3 (by rw [hYl]; exact p1)
          rw [← hsc] at hful
          have hbl : (bytesL (imgTo X hs i)).length = N * 64 := by rw [bytesL_len, hYl]; omega
          have hz0 := setBy_zero (bytesL (imgTo X hs i)) off v
          have hsl := fun b h => setBy_len (bytesL (imgTo X hs i)) off v b h
          have hss := fun b h => setBy_step (bytesL (imgTo X hs i)) off v b h
          rw [hbl] at hsl hss
          have hoN : off + 8 ≤ N * 64 := by omega
          generalize hBs : bytesL (imgTo X hs i) = bs at *
          have hA0 : Has (wr.alloc (.cells #[.int .u64 (off : Int), .int .u64 (v : Int)] 133)) (w.heap.size + 1 + 1) (u8s (setBy bs off v 0)) 5 := by rw [hz0]; exact hP.alloc _
          have hW0 := Has.new wr [.int .u64 (off : Int), .int .u64 (v : Int)] 133
          have hO0 := hO.alloc (.cells #[.int .u64 (off : Int), .int .u64 (v : Int)] 133)
          have hOs := hO.size
          have hgn : w.heap.size + 1 + 1 < wr.heap.size := by omega
          replace hA0 := Lib.hid hA0
          replace hW0 := Lib.hid hW0
          replace hO0 := Lib.hid hO0
          replace hful := Lib.hid hful
          replace hbl := Lib.hid hbl
          replace hz0 := Lib.hid hz0
          replace hsl := Lib.hid hsl
          replace hss := Lib.hid hss
          replace hsc := Lib.hid hsc
          replace hYl := Lib.hid hYl
          replace hoff := Lib.hid hoff
          replace hv := Lib.hid hv
          replace hpe := Lib.hid hpe
          replace hpi := Lib.hid hpi
          replace hBs := Lib.hid hBs
          clear fx cw0 cw1 hP hBr hO
          generalize hg : wr.heap.size = g at *
          go_wp2_with fail
          go_loopw [10, 40] (fun _ bv wz => ∃ b : Nat, b ≤ 8 ∧ bv = .int .i64 (b : Int) ∧ Has wz (w.heap.size + 1 + 1) (u8s (setBy bs off v b)) 5 ∧ Has wz g [.int .u64 (off : Int), .int .u64 (v : Int)] 133 ∧ Only (fun k => k = w.heap.size + 1 + 1) w2 wz) (fun _ bv _ => 8 - (intOf bv).toNat)
          case atStart => exact ⟨0, by omega, rfl, hA0.out, hW0.out, hO0.out⟩
          case round =>
            clear hA0 hW0 hO0 c0 c1
            obtain ⟨b, hb, rfl, hA, hW, hO⟩ := hrel
            by_cases hb8 : b < 8
            · have hbI : decide ((b : Int) < 8) = true := decide_eq_true (by omega)
              have hw1 := Lib.hid (show wrap64 ((b : Int) + 1) = (b : Int) + 1 by unfold wrap64; omega)
              have d0 := hW.cell (o := 0) rfl
              have d1 := hW.cell (o := 1) rfl
              have hAl := hsl.out b (by omega)
              have cA := hA.cell (o := off + b) (u8s_get _ (off + b) _ (get_of_lt 0 (by rw [hAl]; omega)))
              have fA := hA.free (off + b)
              have hoI : (off : Int) + (b : Int) < (N : Int) * 64 := by omega
              have hoI0 : (0 : Int) ≤ (off : Int) + (b : Int) := by omega
              have htn : ((off : Int) + (b : Int)).toNat = off + b := by omega
              have hob : (off : Int) ≤ 9223372036854775807 := by omega
              generalize (setBy bs off v b).getD (off + b) 0 = old at *
              have hcst : ((v / 256 ^ b % 256 : Nat) : Int) = (v : Int) / 2 ^ (8 * b) % 256 := by
                rw [show (256 : Nat) ^ b = 2 ^ (8 * b) from by rw [Nat.pow_mul]]; simp
              have hA2 := hA.set (off + b) (.int .u8 ((v / 256 ^ b % 256 : Nat) : Int))
              rw [← u8s_set, hss.out b (by omega), hcst] at hA2
              have hW2 : Has (wr.setCell ⟨w.heap.size + 1 + 1, off + b, none⟩ (.int .u8 ((v : Int) / 2 ^ (8 * b) % 256))) g _ _ := hW.set_ne (by show g ≠ w.heap.size + 1 + 1; omega) _
              have hO2 := hO.setCell (a := ⟨w.heap.size + 1 + 1, off + b, none⟩) (fun _ => rfl) (.int .u8 ((v : Int) / 2 ^ (8 * b) % 256))
              have hrel : ∃ b' : Nat, b' ≤ 8 ∧ Value.int .i64 ((b : Int) + 1) = .int .i64 (b' : Int) ∧ Has (wr.setCell ⟨w.heap.size + 1 + 1, off + b, none⟩ (.int .u8 ((v : Int) / 2 ^ (8 * b) % 256))) (w.heap.size + 1 + 1) (u8s (setBy bs off v b')) 5 ∧
                  Has (wr.setCell ⟨w.heap.size + 1 + 1, off + b, none⟩ (.int .u8 ((v : Int) / 2 ^ (8 * b) % 256))) g [.int .u64 (off : Int), .int .u64 (v : Int)] 133 ∧ Only (fun k => k = w.heap.size + 1 + 1) w2 (wr.setCell ⟨w.heap.size + 1 + 1, off + b, none⟩ (.int .u8 ((v : Int) / 2 ^ (8 * b) % 256))) :=
                ⟨b + 1, by omega, by go_num, hA2, hW2, hO2⟩
              replace hrel := Lib.hid hrel
              replace hcst := Lib.hid hcst
              clear hA2 hW2 hO2 hA hW hO
              go_wp2_with fail
              exact ⟨hrel.out, by simp [intOf]; omega⟩
            · obtain rfl : b = 8 := by omega
              rw [hful.out] at hA
              replace hA := Lib.hid hA
              replace hO := Lib.hid hO
              clear hW
              go_wp2_with fail
              exact ⟨⟨i + 1, by omega, by go_num, hA.out, hO.out⟩, by simp [intOf]; omega⟩
        · obtain rfl : i = m := by omega
          have hiI : decide ((i : Int) < (i : Int)) = false := decide_eq_false (by omega)
          have hiN : decide (i < i) = false := decide_eq_false (by omega)
          rw [himgm.out] at hP
          replace hP := Lib.hid hP
          replace hO := Lib.hid hO
          go_wp2_with fail
          refine ⟨⟨j + 1, by omega, by go_num, hP.out, hO.out⟩, by simp [intOf]; omega⟩
    · obtain rfl : j = ds.length := by omega
      have hkI : decide ((ds.length : Int) < (ds.length : Int)) = false := decide_eq_false (by omega)
      have hkN : decide (ds.length < ds.length) = false := decide_eq_false (by omega)
      have hws := hwl.out ds.length
      rw [hall.out] at hP hws
      have hnew := hfin.out _ hws wr hP
      have hBr : Below w.heap.size w wr := B2.out.trans (hO.below (B := w.heap.size) B2.out.size (fun k _ e => by omega))
      have hIr := hI2.out.only hO (by omega)
      generalize hZ : crashW R (kOf R ks) = Z at *
      replace hZ := Lib.hid hZ
      replace hnew := Lib.hid hnew
      replace hP := Lib.hid hP
      replace hIr := Lib.hid hIr
      replace hBr := Lib.hid hBr
      clear hO
      go_wp2_with (refine hnew.out.mono ?_; rintro e w5 ⟨rfl, hB5⟩; have i5 := hIr.out.only (Only.of_below hB5) (by have := hIr.out.lt; omega); have i6 := i5.alloc (.cells #[.string (strOf (bytesL Z))] 53); have i7 := i6.cell (o := 0) rfl; have f7 := i6.free 0; have hB6 := hBr.out.trans (hB5.mono hBr.out.size); replace i5 := Lib.hid i5; replace i6 := Lib.hid i6; replace hB6 := Lib.hid hB6)
      have i8 := i6.out.set 0 (.string (strOf (bytesL Z)))
      have q0 := i8.cell (o := 0) rfl
      have hx : post (.returned (.agg #[.string (strOf (bytesL Z))])) ((w5.alloc (.cells #[.string (strOf (bytesL Z))] 53)).setCell ⟨w.heap.size + 1, 0, none⟩ (.string (strOf (bytesL Z)))) := by
        rw [← hpost.out]
        refine ⟨by rw [hZ.out], ?_⟩
        exact (hB6.out.alloc hB6.out.size _).setCell (p := ⟨w.heap.size + 1, 0, none⟩) (by show w.heap.size ≤ w.heap.size + 1; omega) _
      exact bodyPost_ret (v := .agg #[.string (strOf (bytesL Z))]) (by simp [results, Try.results59, go_sem, q0]) rfl hx
end Go.Proofs.Ytjmdibgncaljaaa.Dev

/-! crashset: At. -/
namespace Go.Proofs.Ytjmdibgncaljaaa.Dev
open Go.RowKit Go.Maps
variable {w : World} {F : Own} {o T : Nat} {R : Dv} {L : Lay}

/-- The bytes of combination n. -/
def atB (R : Dv) (n : Nat) : List Nat := bytesL (crashW R (kOf R (digR R (dirtyL R) n)))
def atOk (R : Dv) (n : Nat) : Bool := decide (restR R (dirtyL R) n = 0)
def AtPost (w : World) (R : Dv) (n : Nat) (e : Ending) (w' : World) : Prop :=
  e = .returned (if atOk R n = true then .tuple #[.agg #[.string (strOf (atB R n))], .int .i64 0] else .tuple #[.agg #[Value.string ⟨#[]⟩], .int .i64 2]) ∧ Below w.heap.size w w'
end Go.Proofs.Ytjmdibgncaljaaa.Dev
