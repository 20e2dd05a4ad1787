/- DeviceNews: the walk. -/
import Derived.Test.YtkmhanjddkplbaaH4
namespace Go.Proofs.Ytkmhanjddkplbaa
open Go.RowKit Go.Maps
variable {w : World} {F F' : Own} {o o' h T : Nat} {R : Dv} {L : Lay}

theorem from_form {a : Option Addr} {c : Nat} {p : List Nat} (hb : BytesIn w a c p) (h : p.length % 64 ≠ 0) : Calls Try.prog 18 #[.slice a p.length c] w fun e w' => e = .returned (.tuple #[.pointer none, .int .i64 11]) ∧ w = w' := by
  have hm := hb.m
  have hd : (((p.length : Int) % 64) == 0) = false := by rw [beq_eq_false_iff_ne]; omega
  have hd2 : ((p.length : Int) % 64 != 0) = true := by rw [bne_iff_ne]; omega
  generalize p.length = n at *
  clear hb
  go_enter Try.func18, Try.ntmps18
  go_wp2_with fail
  go_ret2
  exact ⟨rfl, rfl⟩
theorem from_arg {a : Option Addr} {c : Nat} : Calls Try.prog 18 #[.slice a 0 c] w fun e w' => e = .returned (.tuple #[.pointer none, .int .i64 1]) ∧ w = w' := by
  go_enter Try.func18, Try.ntmps18
  go_wp2_with fail
  go_ret2
  exact ⟨rfl, rfl⟩
theorem Rd.str {a : Option Addr} {c : Nat} {bs : List Nat} (hr : Rd w (.slice a bs.length c) bs.length (u8s bs)) (hb : ∀ x ∈ bs, x < 256) (hn : 0 < bs.length) : Str w (.slice a bs.length c) (strOf bs) := by
  intro w' hB
  obtain ⟨bl, ol, cl, ea, fa⟩ := (hr.kept hB).cells hn
  simp only [Value.slice.injEq, true_and] at ea
  obtain ⟨rfl, rfl⟩ := ea
  have := run_convert_bytes_back (P := Try.prog) w' 22 9 5 ⟨bl, ol, none⟩ c (bs.map UInt8.ofNat) Try.underlying22 Try.underlying5 Try.underlying9 (fun j hj => by
    simp only [List.length_map] at hj
    have hat := get_of_lt 0 hj
    have hx := hb _ (List.mem_of_getElem? hat)
    have := fa _ _ (u8s_get bs j _ hat)
    rw [show (⟨bl, ol, none⟩ : Addr).add j = ⟨bl, ol + j, none⟩ from by unfold Addr.add; split <;> simp_all, this]
    exact byte_at hj hx)
  rw [List.length_map] at this
  exact this
/-- From of the shortened bytes, at whatever world: what the law makes of it. -/
def NewsEnd (W : World) (e : Ending) (w' : World) : Prop := e = .returned (.bool true) ∧ Below W.heap.size W w'
theorem len_take_le (p : List Nat) (n : Nat) : (p.take n).length ≤ n := by rw [List.length_take]; omega
/-- A device in both forms, freshly made. -/
structure FrSt (w : World) (L : Lay) (h : Nat) (R : Dv) (wx : World) : Prop where
  ex : ∃ F, DevSt wx F 0 L 0 R ∧ RefSt wx F 1 h 0 R
  b : Below w.heap.size w wx
theorem FrSt.below {w wx w' : World} {L : Lay} {h : Nat} {R : Dv} (hp : FrSt w L h R wx) (hb : Below wx.heap.size wx w') : FrSt w L h R w' := by
  obtain ⟨F, h1, h2⟩ := hp.ex
  exact ⟨⟨F, h1.below hb, h2.below hb⟩, hp.b.trans (hb.mono hp.b.size)⟩
theorem FrSt.drew {w wx : World} {L : Lay} {h : Nat} {R : Dv} (hp : FrSt w L h R wx) : FrSt w L h R wx.drew := hp.below (below_drewN (Below.refl _ _) 1)
theorem FrSt.same {w wx : World} {L : Lay} {h : Nat} {R : Dv} (hp : FrSt w L h R wx) : Calls Try.prog 15 #[.pointer (some ⟨L.g, 0, none⟩), .pointer (some ⟨h, 0, none⟩)] wx fun e w' => e = .returned (.bool true) ∧ FrSt w L h R w' := by
  obtain ⟨F, h1, h2⟩ := hp.ex
  exact (same_any h1 h2).mono fun e w' ⟨he, hb⟩ => ⟨he, hp.below hb⟩
set_option maxHeartbeats 8000000 in
set_option maxRecDepth 100000 in
theorem news_X1 (W : World) (n : Int) (hn : n < 1) (a : Option Addr) (c : Nat) (p : List Nat) (hp : BytesIn W a c p) (hl : (p.take 400).length % 64 ≠ 0) :
    Calls Try.prog 3 #[.int .i64 n, .slice a p.length c] W (NewsEnd W) := by
  have hd1 : decide (n < 1) = true := decide_eq_true hn
  have hd5 : ¬ 5000 < n := by omega
  have hnew := fun wx => new_bad wx n (.inl hn)
  have hsh := fun wx (hB : Below W.heap.size W wx) => short_any (hp.kept hB) 400 400 rfl
  have hq := hp.take 400
  have hq4 := len_take_le p 400
  generalize p.take 400 = q at *
  have hq64 : ((q.length : Int) % 64 != 0) = true := by rw [bne_iff_ne]; omega
  have hfr := fun wx (hB : Below W.heap.size W wx) => from_form (hq.kept hB) hl
  replace hl := Lib.hid hl
  replace hsh := Lib.hid hsh
  replace hnew := Lib.hid hnew
  replace hfr := Lib.hid hfr
  replace hq := Lib.hid hq
  clear hp
  unfold NewsEnd
  go_enter Try.func3, Try.ntmps3
  go_wp2_with fail
  refine (awake_any _).mono ?_
  rintro e w1 ⟨rfl, b1⟩
  go_wp2_with fail
  refine (hsh.out _ b1).mono ?_
  rintro e w' ⟨rfl, rfl⟩
  go_wp2_with fail
  refine (hnew.out _).mono ?_
  rintro e w' ⟨rfl, rfl⟩
  go_wp2_with fail
  refine (hfr.out _ b1).mono ?_
  rintro e w' ⟨rfl, rfl⟩
  go_wp2_with fail
  go_ret
  exact ⟨rfl, b1⟩
set_option maxHeartbeats 8000000 in
set_option maxRecDepth 100000 in
theorem news_X2 (W : World) (n : Int) (hn : n < 1) (a : Option Addr) (c : Nat) (p : List Nat) (hp : BytesIn W a c p) (hl : (p.take 400).length = 0) :
    Calls Try.prog 3 #[.int .i64 n, .slice a p.length c] W (NewsEnd W) := by
  have hd1 : decide (n < 1) = true := decide_eq_true hn
  have hd5 : ¬ 5000 < n := by omega
  have hnew := fun wx => new_bad wx n (.inl hn)
  have hsh := fun wx (hB : Below W.heap.size W wx) => short_any (hp.kept hB) 400 400 rfl
  have hq := hp.take 400
  have hq4 := len_take_le p 400
  generalize p.take 400 = q at *
  rw [hl] at hsh
  have hfr := fun wx => from_arg (w := wx) (a := a) (c := c)
  replace hsh := Lib.hid hsh
  replace hnew := Lib.hid hnew
  replace hfr := Lib.hid hfr
  replace hq := Lib.hid hq
  clear hp
  unfold NewsEnd
  go_enter Try.func3, Try.ntmps3
  go_wp2_with fail
  refine (awake_any _).mono ?_
  rintro e w1 ⟨rfl, b1⟩
  go_wp2_with fail
  refine (hsh.out _ b1).mono ?_
  rintro e w' ⟨rfl, rfl⟩
  go_wp2_with fail
  refine (hnew.out _).mono ?_
  rintro e w' ⟨rfl, rfl⟩
  go_wp2_with fail
  refine (hfr.out _).mono ?_
  rintro e w' ⟨rfl, rfl⟩
  go_wp2_with fail
  go_ret
  exact ⟨rfl, b1⟩
set_option maxHeartbeats 8000000 in
set_option maxRecDepth 100000 in
theorem news_X3 (W : World) (n : Int) (hn : n < 1) (a : Option Addr) (c : Nat) (p : List Nat) (hp : BytesIn W a c p) (hl : (p.take 400).length % 64 = 0 ∧ 0 < (p.take 400).length) :
    Calls Try.prog 3 #[.int .i64 n, .slice a p.length c] W (NewsEnd W) := by
  have hd1 : decide (n < 1) = true := decide_eq_true hn
  have hd5 : ¬ 5000 < n := by omega
  have hnew := fun wx => new_bad wx n (.inl hn)
  have hsh := fun wx (hB : Below W.heap.size W wx) => short_any (hp.kept hB) 400 400 rfl
  have hq := hp.take 400
  have hq4 := len_take_le p 400
  generalize p.take 400 = q at *
  obtain ⟨hl1, hl2⟩ := hl
  have hq64 : ((q.length : Int) % 64 != 0) = false := by rw [bne_eq_false_iff_eq]; omega
  have hq0 : ((q.length : Int) == 0) = false := by rw [beq_eq_false_iff_ne]; omega
  have hbw := bytes_words q hq.lt (by omega)
  have hwl : (wordsOf q).length = q.length / 64 * 8 := by rw [wordsOf_len]; omega
  have hwlt := wordsOf_lt q hq.lt
  have hfr : ∀ wx (hB : Below W.heap.size W wx), Calls Try.prog 18 #[.slice a q.length c] wx (fun e w' => ∃ L F', e = .returned (.tuple #[.pointer (some ⟨L.g, 0, none⟩), .int .i64 0]) ∧ DevSt w' F' 0 L 0 (fromP (q.length / 64) (wordsOf q)) ∧ Below wx.heap.size wx w') := fun wx hB => by
    have hin := hq.kept hB
    rw [← hbw] at hin
    have := from_any noOwn 0 hin (q.length / 64) hwl (by omega) (by omega) hwlt
    rw [hbw] at this
    exact this.mono fun e w' ⟨L, F', he, hd, _, hb⟩ => ⟨L, F', he, hd, hb⟩
  have hrf : ∀ wx (hB : Below W.heap.size W wx) (F : Own), Calls Try.prog 19 #[.slice a q.length c] wx (RNewPost wx (F.drop 1) 1 (fromP (q.length / 64) (wordsOf q))) := fun wx hB (F : Own) => by
    have hin := hq.kept hB
    rw [← hbw] at hin
    have := rfrom_any (F.drop 1) 1 (fun k r _ => F.drop_ne 1 k r) hin (q.length / 64) hwl (by omega) (by omega) hwlt
    rw [hbw] at this
    exact this
  have hper : ∀ wx F L, DevSt wx F 0 L 0 (fromP (q.length / 64) (wordsOf q)) → Calls Try.prog 20 #[.pointer (some ⟨L.g, 0, none⟩)] wx (SPost wx (strOf q)) := fun wx F L hd => by
    have := persisted_any hd
    rw [fromP_per _ _ hwl, hbw] at this
    exact this.mono fun e w' ⟨b, h1, h2, h3, _⟩ => ⟨_, h1, h2.str hq.lt _, h3⟩
  have hstr := fun wx (hB : Below W.heap.size W wx) => ((hq.kept hB).r).str hq.lt hl2
  replace hstr := Lib.hid hstr
  replace hrf := Lib.hid hrf
  replace hper := Lib.hid hper
  replace hbw := Lib.hid hbw
  replace hwl := Lib.hid hwl
  replace hwlt := Lib.hid hwlt
  replace hl1 := Lib.hid hl1
  replace hsh := Lib.hid hsh
  replace hnew := Lib.hid hnew
  replace hfr := Lib.hid hfr
  replace hq := Lib.hid hq
  clear hp
  unfold NewsEnd
  go_enter Try.func3, Try.ntmps3
  go_wp2_with fail
  refine (awake_any _).mono ?_
  rintro e w1 ⟨rfl, b1⟩
  go_wp2_with fail
  refine (hsh.out _ b1).mono ?_
  rintro e w' ⟨rfl, rfl⟩
  go_wp2_with fail
  refine (hnew.out _).mono ?_
  rintro e w' ⟨rfl, rfl⟩
  go_wp2_with fail
  refine (hfr.out _ b1).mono ?_
  rintro e w5 ⟨L5, F5, rfl, d5, b7⟩
  have b8 := b1.trans (b7.mono b1.size)
  clear b7 b1
  have sQ := hstr.out w5 b8
  have cQ := sQ _ (Below.refl _ _)
  have cQd := sQ _ (Fr.drew (Below.refl _ _))
  have hRF : ∀ wx, Below w5.heap.size w5 wx → Calls Try.prog 19 #[.slice a q.length c] wx (fun e w' => ∃ h', e = .returned (.pointer (some ⟨h', 0, none⟩)) ∧ FrSt w5 L5 h' (fromP (q.length / 64) (wordsOf q)) w' ∧ Below wx.heap.size wx w') := fun wx hB => by
    refine (hrf.out wx (b8.trans (hB.mono b8.size)) F5).mono ?_
    rintro e w' ⟨h', F', rfl, r, x, b⟩
    exact ⟨h', rfl, ⟨⟨F', ((d5.below hB).retag (F5.drop_keep (by omega))).belowX b x, r⟩, hB.trans (b.mono hB.size)⟩, b⟩
  have hS : ∀ wx h', FrSt w5 L5 h' (fromP (q.length / 64) (wordsOf q)) wx → Calls Try.prog 15 #[.pointer (some ⟨L5.g, 0, none⟩), .pointer (some ⟨h', 0, none⟩)] wx fun e w' => e = .returned (.bool true) ∧ FrSt w5 L5 h' (fromP (q.length / 64) (wordsOf q)) w' := fun wx h' hp => hp.same
  have hP : ∀ wx h', FrSt w5 L5 h' (fromP (q.length / 64) (wordsOf q)) wx → Calls Try.prog 20 #[.pointer (some ⟨L5.g, 0, none⟩)] wx (SPost wx (strOf q)) := fun wx h' hp => by
    obtain ⟨F, h1, _⟩ := hp.ex
    exact hper.out wx F L5 h1
  replace hRF := Lib.hid hRF
  replace hS := Lib.hid hS
  replace hP := Lib.hid hP
  clear d5 hper hrf hstr
  have hB0 : Below w5.heap.size w5 w5 := Below.refl _ _
  generalize strOf q = sq at *
  generalize fromP (q.length / 64) (wordsOf q) = Rq at *
  go_wp2_with fail
  go_region_with ((first
    | (go_at_call 19; (with_reducible refine (hRF.out _ ?_).mono ?_); (first | exact hB0 | exact Fr.drew hB0); rintro e wa ⟨h', rfl, f1, bA⟩; have kA : Below w5.heap.size w5 wa := f1.b; have sQ2 := sQ.up kA; have cA := sQ2 _ (Below.refl _ _); have cAd := sQ2 _ (Fr.drew (Below.refl _ _)))
    | (go_at_call 15; (with_reducible refine (hS.out _ _ ?_).mono ?_); (first | exact f1 | exact f1.drew); rintro e wb ⟨rfl, f2⟩; have kB : Below w5.heap.size w5 wb := f2.b; have sQ3 := sQ.up kB; have cB := sQ3 _ (Below.refl _ _); have cBd := sQ3 _ (Fr.drew (Below.refl _ _)))
    | (go_at_call 20; (with_reducible refine (hP.out _ h' ?_).mono ?_); (first | exact f2 | exact f2.drew); rintro e wc ⟨vp, rfl, sP, bP⟩; have f3 : FrSt w5 L5 h' Rq wc := (by first | exact f2.below bP | exact f2.drew.below bP); have kC : Below w5.heap.size w5 wc := f3.b; have sQ4 := sQ.up kC; have cC := sQ4 _ (Below.refl _ _); have cCd := sQ4 _ (Fr.drew (Below.refl _ _)); have cP := sP _ (Below.refl _ _); have cPd := sP _ (Fr.drew (Below.refl _ _)))))
  all_goals
    have kE : Below W.heap.size W wc := b8.trans (f3.b.mono b8.size)
    clear f1 f2 f3
    go_wp2_with fail
    go_ret
    exact ⟨rfl, by first | exact kE | exact Fr.drew kE⟩
set_option maxHeartbeats 8000000 in
set_option maxRecDepth 100000 in
theorem news_Y1 (W : World) (n : Int) (hn : 4096 < n ∧ n ≤ 5000) (a : Option Addr) (c : Nat) (p : List Nat) (hp : BytesIn W a c p) (hl : (p.take 400).length % 64 ≠ 0) :
    Calls Try.prog 3 #[.int .i64 n, .slice a p.length c] W (NewsEnd W) := by
  obtain ⟨hn1, hn2⟩ := hn
  have hd1 : decide (n < 1) = false := decide_eq_false (by omega)
  have hd2 : decide (4096 < n) = true := decide_eq_true hn1
  have hd5 : ¬ 5000 < n := by omega
  have hnew := fun wx => new_bad wx n (.inr hn1)
  have hsh := fun wx (hB : Below W.heap.size W wx) => short_any (hp.kept hB) 400 400 rfl
  have hq := hp.take 400
  have hq4 := len_take_le p 400
  generalize p.take 400 = q at *
  have hq64 : ((q.length : Int) % 64 != 0) = true := by rw [bne_iff_ne]; omega
  have hfr := fun wx (hB : Below W.heap.size W wx) => from_form (hq.kept hB) hl
  replace hl := Lib.hid hl
  replace hsh := Lib.hid hsh
  replace hnew := Lib.hid hnew
  replace hfr := Lib.hid hfr
  replace hq := Lib.hid hq
  clear hp
  unfold NewsEnd
  go_enter Try.func3, Try.ntmps3
  go_wp2_with fail
  refine (awake_any _).mono ?_
  rintro e w1 ⟨rfl, b1⟩
  go_wp2_with fail
  refine (hsh.out _ b1).mono ?_
  rintro e w' ⟨rfl, rfl⟩
  go_wp2_with fail
  refine (hnew.out _).mono ?_
  rintro e w' ⟨rfl, rfl⟩
  go_wp2_with fail
  refine (hfr.out _ b1).mono ?_
  rintro e w' ⟨rfl, rfl⟩
  go_wp2_with fail
  go_ret
  exact ⟨rfl, b1⟩
set_option maxHeartbeats 8000000 in
set_option maxRecDepth 100000 in
theorem news_Y2 (W : World) (n : Int) (hn : 4096 < n ∧ n ≤ 5000) (a : Option Addr) (c : Nat) (p : List Nat) (hp : BytesIn W a c p) (hl : (p.take 400).length = 0) :
    Calls Try.prog 3 #[.int .i64 n, .slice a p.length c] W (NewsEnd W) := by
  obtain ⟨hn1, hn2⟩ := hn
  have hd1 : decide (n < 1) = false := decide_eq_false (by omega)
  have hd2 : decide (4096 < n) = true := decide_eq_true hn1
  have hd5 : ¬ 5000 < n := by omega
  have hnew := fun wx => new_bad wx n (.inr hn1)
  have hsh := fun wx (hB : Below W.heap.size W wx) => short_any (hp.kept hB) 400 400 rfl
  have hq := hp.take 400
  have hq4 := len_take_le p 400
  generalize p.take 400 = q at *
  rw [hl] at hsh
  have hfr := fun wx => from_arg (w := wx) (a := a) (c := c)
  replace hsh := Lib.hid hsh
  replace hnew := Lib.hid hnew
  replace hfr := Lib.hid hfr
  replace hq := Lib.hid hq
  clear hp
  unfold NewsEnd
  go_enter Try.func3, Try.ntmps3
  go_wp2_with fail
  refine (awake_any _).mono ?_
  rintro e w1 ⟨rfl, b1⟩
  go_wp2_with fail
  refine (hsh.out _ b1).mono ?_
  rintro e w' ⟨rfl, rfl⟩
  go_wp2_with fail
  refine (hnew.out _).mono ?_
  rintro e w' ⟨rfl, rfl⟩
  go_wp2_with fail
  refine (hfr.out _).mono ?_
  rintro e w' ⟨rfl, rfl⟩
  go_wp2_with fail
  go_ret
  exact ⟨rfl, b1⟩
set_option maxHeartbeats 8000000 in
set_option maxRecDepth 100000 in
theorem news_Y3 (W : World) (n : Int) (hn : 4096 < n ∧ n ≤ 5000) (a : Option Addr) (c : Nat) (p : List Nat) (hp : BytesIn W a c p) (hl : (p.take 400).length % 64 = 0 ∧ 0 < (p.take 400).length) :
    Calls Try.prog 3 #[.int .i64 n, .slice a p.length c] W (NewsEnd W) := by
  obtain ⟨hn1, hn2⟩ := hn
  have hd1 : decide (n < 1) = false := decide_eq_false (by omega)
  have hd2 : decide (4096 < n) = true := decide_eq_true hn1
  have hd5 : ¬ 5000 < n := by omega
  have hnew := fun wx => new_bad wx n (.inr hn1)
  have hsh := fun wx (hB : Below W.heap.size W wx) => short_any (hp.kept hB) 400 400 rfl
  have hq := hp.take 400
  have hq4 := len_take_le p 400
  generalize p.take 400 = q at *
  obtain ⟨hl1, hl2⟩ := hl
  have hq64 : ((q.length : Int) % 64 != 0) = false := by rw [bne_eq_false_iff_eq]; omega
  have hq0 : ((q.length : Int) == 0) = false := by rw [beq_eq_false_iff_ne]; omega
  have hbw := bytes_words q hq.lt (by omega)
  have hwl : (wordsOf q).length = q.length / 64 * 8 := by rw [wordsOf_len]; omega
  have hwlt := wordsOf_lt q hq.lt
  have hfr : ∀ wx (hB : Below W.heap.size W wx), Calls Try.prog 18 #[.slice a q.length c] wx (fun e w' => ∃ L F', e = .returned (.tuple #[.pointer (some ⟨L.g, 0, none⟩), .int .i64 0]) ∧ DevSt w' F' 0 L 0 (fromP (q.length / 64) (wordsOf q)) ∧ Below wx.heap.size wx w') := fun wx hB => by
    have hin := hq.kept hB
    rw [← hbw] at hin
    have := from_any noOwn 0 hin (q.length / 64) hwl (by omega) (by omega) hwlt
    rw [hbw] at this
    exact this.mono fun e w' ⟨L, F', he, hd, _, hb⟩ => ⟨L, F', he, hd, hb⟩
  have hrf : ∀ wx (hB : Below W.heap.size W wx) (F : Own), Calls Try.prog 19 #[.slice a q.length c] wx (RNewPost wx (F.drop 1) 1 (fromP (q.length / 64) (wordsOf q))) := fun wx hB (F : Own) => by
    have hin := hq.kept hB
    rw [← hbw] at hin
    have := rfrom_any (F.drop 1) 1 (fun k r _ => F.drop_ne 1 k r) hin (q.length / 64) hwl (by omega) (by omega) hwlt
    rw [hbw] at this
    exact this
  have hper : ∀ wx F L, DevSt wx F 0 L 0 (fromP (q.length / 64) (wordsOf q)) → Calls Try.prog 20 #[.pointer (some ⟨L.g, 0, none⟩)] wx (SPost wx (strOf q)) := fun wx F L hd => by
    have := persisted_any hd
    rw [fromP_per _ _ hwl, hbw] at this
    exact this.mono fun e w' ⟨b, h1, h2, h3, _⟩ => ⟨_, h1, h2.str hq.lt _, h3⟩
  have hstr := fun wx (hB : Below W.heap.size W wx) => ((hq.kept hB).r).str hq.lt hl2
  replace hstr := Lib.hid hstr
  replace hrf := Lib.hid hrf
  replace hper := Lib.hid hper
  replace hbw := Lib.hid hbw
  replace hwl := Lib.hid hwl
  replace hwlt := Lib.hid hwlt
  replace hl1 := Lib.hid hl1
  replace hsh := Lib.hid hsh
  replace hnew := Lib.hid hnew
  replace hfr := Lib.hid hfr
  replace hq := Lib.hid hq
  clear hp
  unfold NewsEnd
  go_enter Try.func3, Try.ntmps3
  go_wp2_with fail
  refine (awake_any _).mono ?_
  rintro e w1 ⟨rfl, b1⟩
  go_wp2_with fail
  refine (hsh.out _ b1).mono ?_
  rintro e w' ⟨rfl, rfl⟩
  go_wp2_with fail
  refine (hnew.out _).mono ?_
  rintro e w' ⟨rfl, rfl⟩
  go_wp2_with fail
  refine (hfr.out _ b1).mono ?_
  rintro e w5 ⟨L5, F5, rfl, d5, b7⟩
  have b8 := b1.trans (b7.mono b1.size)
  clear b7 b1
  have sQ := hstr.out w5 b8
  have cQ := sQ _ (Below.refl _ _)
  have cQd := sQ _ (Fr.drew (Below.refl _ _))
  have hRF : ∀ wx, Below w5.heap.size w5 wx → Calls Try.prog 19 #[.slice a q.length c] wx (fun e w' => ∃ h', e = .returned (.pointer (some ⟨h', 0, none⟩)) ∧ FrSt w5 L5 h' (fromP (q.length / 64) (wordsOf q)) w' ∧ Below wx.heap.size wx w') := fun wx hB => by
    refine (hrf.out wx (b8.trans (hB.mono b8.size)) F5).mono ?_
    rintro e w' ⟨h', F', rfl, r, x, b⟩
    exact ⟨h', rfl, ⟨⟨F', ((d5.below hB).retag (F5.drop_keep (by omega))).belowX b x, r⟩, hB.trans (b.mono hB.size)⟩, b⟩
  have hS : ∀ wx h', FrSt w5 L5 h' (fromP (q.length / 64) (wordsOf q)) wx → Calls Try.prog 15 #[.pointer (some ⟨L5.g, 0, none⟩), .pointer (some ⟨h', 0, none⟩)] wx fun e w' => e = .returned (.bool true) ∧ FrSt w5 L5 h' (fromP (q.length / 64) (wordsOf q)) w' := fun wx h' hp => hp.same
  have hP : ∀ wx h', FrSt w5 L5 h' (fromP (q.length / 64) (wordsOf q)) wx → Calls Try.prog 20 #[.pointer (some ⟨L5.g, 0, none⟩)] wx (SPost wx (strOf q)) := fun wx h' hp => by
    obtain ⟨F, h1, _⟩ := hp.ex
    exact hper.out wx F L5 h1
  replace hRF := Lib.hid hRF
  replace hS := Lib.hid hS
  replace hP := Lib.hid hP
  clear d5 hper hrf hstr
  have hB0 : Below w5.heap.size w5 w5 := Below.refl _ _
  generalize strOf q = sq at *
  generalize fromP (q.length / 64) (wordsOf q) = Rq at *
  go_wp2_with fail
  go_region_with ((first
    | (go_at_call 19; (with_reducible refine (hRF.out _ ?_).mono ?_); (first | exact hB0 | exact Fr.drew hB0); rintro e wa ⟨h', rfl, f1, bA⟩; have kA : Below w5.heap.size w5 wa := f1.b; have sQ2 := sQ.up kA; have cA := sQ2 _ (Below.refl _ _); have cAd := sQ2 _ (Fr.drew (Below.refl _ _)))
    | (go_at_call 15; (with_reducible refine (hS.out _ _ ?_).mono ?_); (first | exact f1 | exact f1.drew); rintro e wb ⟨rfl, f2⟩; have kB : Below w5.heap.size w5 wb := f2.b; have sQ3 := sQ.up kB; have cB := sQ3 _ (Below.refl _ _); have cBd := sQ3 _ (Fr.drew (Below.refl _ _)))
    | (go_at_call 20; (with_reducible refine (hP.out _ h' ?_).mono ?_); (first | exact f2 | exact f2.drew); rintro e wc ⟨vp, rfl, sP, bP⟩; have f3 : FrSt w5 L5 h' Rq wc := (by first | exact f2.below bP | exact f2.drew.below bP); have kC : Below w5.heap.size w5 wc := f3.b; have sQ4 := sQ.up kC; have cC := sQ4 _ (Below.refl _ _); have cCd := sQ4 _ (Fr.drew (Below.refl _ _)); have cP := sP _ (Below.refl _ _); have cPd := sP _ (Fr.drew (Below.refl _ _)))))
  all_goals
    have kE : Below W.heap.size W wc := b8.trans (f3.b.mono b8.size)
    clear f1 f2 f3
    go_wp2_with fail
    go_ret
    exact ⟨rfl, by first | exact kE | exact Fr.drew kE⟩
set_option maxHeartbeats 8000000 in
set_option maxRecDepth 100000 in
theorem news_Z1 (W : World) (n : Int) (hn : 5000 < n) (a : Option Addr) (c : Nat) (p : List Nat) (hp : BytesIn W a c p) (hl : (p.take 400).length % 64 ≠ 0) :
    Calls Try.prog 3 #[.int .i64 n, .slice a p.length c] W (NewsEnd W) := by
  have hnew := fun wx => new_bad wx 5000 (.inr (by omega))
  have hsh := fun wx (hB : Below W.heap.size W wx) => short_any (hp.kept hB) 400 400 rfl
  have hq := hp.take 400
  have hq4 := len_take_le p 400
  generalize p.take 400 = q at *
  have hq64 : ((q.length : Int) % 64 != 0) = true := by rw [bne_iff_ne]; omega
  have hfr := fun wx (hB : Below W.heap.size W wx) => from_form (hq.kept hB) hl
  replace hl := Lib.hid hl
  replace hsh := Lib.hid hsh
  replace hnew := Lib.hid hnew
  replace hfr := Lib.hid hfr
  replace hq := Lib.hid hq
  clear hp
  unfold NewsEnd
  go_enter Try.func3, Try.ntmps3
  go_wp2_with fail
  refine (awake_any _).mono ?_
  rintro e w1 ⟨rfl, b1⟩
  go_wp2_with fail
  refine (hsh.out _ b1).mono ?_
  rintro e w' ⟨rfl, rfl⟩
  go_wp2_with fail
  refine (hnew.out _).mono ?_
  rintro e w' ⟨rfl, rfl⟩
  go_wp2_with fail
  refine (hfr.out _ b1).mono ?_
  rintro e w' ⟨rfl, rfl⟩
  go_wp2_with fail
  go_ret
  exact ⟨rfl, b1⟩
set_option maxHeartbeats 8000000 in
set_option maxRecDepth 100000 in
theorem news_Z2 (W : World) (n : Int) (hn : 5000 < n) (a : Option Addr) (c : Nat) (p : List Nat) (hp : BytesIn W a c p) (hl : (p.take 400).length = 0) :
    Calls Try.prog 3 #[.int .i64 n, .slice a p.length c] W (NewsEnd W) := by
  have hnew := fun wx => new_bad wx 5000 (.inr (by omega))
  have hsh := fun wx (hB : Below W.heap.size W wx) => short_any (hp.kept hB) 400 400 rfl
  have hq := hp.take 400
  have hq4 := len_take_le p 400
  generalize p.take 400 = q at *
  rw [hl] at hsh
  have hfr := fun wx => from_arg (w := wx) (a := a) (c := c)
  replace hsh := Lib.hid hsh
  replace hnew := Lib.hid hnew
  replace hfr := Lib.hid hfr
  replace hq := Lib.hid hq
  clear hp
  unfold NewsEnd
  go_enter Try.func3, Try.ntmps3
  go_wp2_with fail
  refine (awake_any _).mono ?_
  rintro e w1 ⟨rfl, b1⟩
  go_wp2_with fail
  refine (hsh.out _ b1).mono ?_
  rintro e w' ⟨rfl, rfl⟩
  go_wp2_with fail
  refine (hnew.out _).mono ?_
  rintro e w' ⟨rfl, rfl⟩
  go_wp2_with fail
  refine (hfr.out _).mono ?_
  rintro e w' ⟨rfl, rfl⟩
  go_wp2_with fail
  go_ret
  exact ⟨rfl, b1⟩
set_option maxHeartbeats 8000000 in
set_option maxRecDepth 100000 in
theorem news_Z3 (W : World) (n : Int) (hn : 5000 < n) (a : Option Addr) (c : Nat) (p : List Nat) (hp : BytesIn W a c p) (hl : (p.take 400).length % 64 = 0 ∧ 0 < (p.take 400).length) :
    Calls Try.prog 3 #[.int .i64 n, .slice a p.length c] W (NewsEnd W) := by
  have hnew := fun wx => new_bad wx 5000 (.inr (by omega))
  have hsh := fun wx (hB : Below W.heap.size W wx) => short_any (hp.kept hB) 400 400 rfl
  have hq := hp.take 400
  have hq4 := len_take_le p 400
  generalize p.take 400 = q at *
  obtain ⟨hl1, hl2⟩ := hl
  have hq64 : ((q.length : Int) % 64 != 0) = false := by rw [bne_eq_false_iff_eq]; omega
  have hq0 : ((q.length : Int) == 0) = false := by rw [beq_eq_false_iff_ne]; omega
  have hbw := bytes_words q hq.lt (by omega)
  have hwl : (wordsOf q).length = q.length / 64 * 8 := by rw [wordsOf_len]; omega
  have hwlt := wordsOf_lt q hq.lt
  have hfr : ∀ wx (hB : Below W.heap.size W wx), Calls Try.prog 18 #[.slice a q.length c] wx (fun e w' => ∃ L F', e = .returned (.tuple #[.pointer (some ⟨L.g, 0, none⟩), .int .i64 0]) ∧ DevSt w' F' 0 L 0 (fromP (q.length / 64) (wordsOf q)) ∧ Below wx.heap.size wx w') := fun wx hB => by
    have hin := hq.kept hB
    rw [← hbw] at hin
    have := from_any noOwn 0 hin (q.length / 64) hwl (by omega) (by omega) hwlt
    rw [hbw] at this
    exact this.mono fun e w' ⟨L, F', he, hd, _, hb⟩ => ⟨L, F', he, hd, hb⟩
  have hrf : ∀ wx (hB : Below W.heap.size W wx) (F : Own), Calls Try.prog 19 #[.slice a q.length c] wx (RNewPost wx (F.drop 1) 1 (fromP (q.length / 64) (wordsOf q))) := fun wx hB (F : Own) => by
    have hin := hq.kept hB
    rw [← hbw] at hin
    have := rfrom_any (F.drop 1) 1 (fun k r _ => F.drop_ne 1 k r) hin (q.length / 64) hwl (by omega) (by omega) hwlt
    rw [hbw] at this
    exact this
  have hper : ∀ wx F L, DevSt wx F 0 L 0 (fromP (q.length / 64) (wordsOf q)) → Calls Try.prog 20 #[.pointer (some ⟨L.g, 0, none⟩)] wx (SPost wx (strOf q)) := fun wx F L hd => by
    have := persisted_any hd
    rw [fromP_per _ _ hwl, hbw] at this
    exact this.mono fun e w' ⟨b, h1, h2, h3, _⟩ => ⟨_, h1, h2.str hq.lt _, h3⟩
  have hstr := fun wx (hB : Below W.heap.size W wx) => ((hq.kept hB).r).str hq.lt hl2
  replace hstr := Lib.hid hstr
  replace hrf := Lib.hid hrf
  replace hper := Lib.hid hper
  replace hbw := Lib.hid hbw
  replace hwl := Lib.hid hwl
  replace hwlt := Lib.hid hwlt
  replace hl1 := Lib.hid hl1
  replace hsh := Lib.hid hsh
  replace hnew := Lib.hid hnew
  replace hfr := Lib.hid hfr
  replace hq := Lib.hid hq
  clear hp
  unfold NewsEnd
  go_enter Try.func3, Try.ntmps3
  go_wp2_with fail
  refine (awake_any _).mono ?_
  rintro e w1 ⟨rfl, b1⟩
  go_wp2_with fail
  refine (hsh.out _ b1).mono ?_
  rintro e w' ⟨rfl, rfl⟩
  go_wp2_with fail
  refine (hnew.out _).mono ?_
  rintro e w' ⟨rfl, rfl⟩
  go_wp2_with fail
  refine (hfr.out _ b1).mono ?_
  rintro e w5 ⟨L5, F5, rfl, d5, b7⟩
  have b8 := b1.trans (b7.mono b1.size)
  clear b7 b1
  have sQ := hstr.out w5 b8
  have cQ := sQ _ (Below.refl _ _)
  have cQd := sQ _ (Fr.drew (Below.refl _ _))
  have hRF : ∀ wx, Below w5.heap.size w5 wx → Calls Try.prog 19 #[.slice a q.length c] wx (fun e w' => ∃ h', e = .returned (.pointer (some ⟨h', 0, none⟩)) ∧ FrSt w5 L5 h' (fromP (q.length / 64) (wordsOf q)) w' ∧ Below wx.heap.size wx w') := fun wx hB => by
    refine (hrf.out wx (b8.trans (hB.mono b8.size)) F5).mono ?_
    rintro e w' ⟨h', F', rfl, r, x, b⟩
    exact ⟨h', rfl, ⟨⟨F', ((d5.below hB).retag (F5.drop_keep (by omega))).belowX b x, r⟩, hB.trans (b.mono hB.size)⟩, b⟩
  have hS : ∀ wx h', FrSt w5 L5 h' (fromP (q.length / 64) (wordsOf q)) wx → Calls Try.prog 15 #[.pointer (some ⟨L5.g, 0, none⟩), .pointer (some ⟨h', 0, none⟩)] wx fun e w' => e = .returned (.bool true) ∧ FrSt w5 L5 h' (fromP (q.length / 64) (wordsOf q)) w' := fun wx h' hp => hp.same
  have hP : ∀ wx h', FrSt w5 L5 h' (fromP (q.length / 64) (wordsOf q)) wx → Calls Try.prog 20 #[.pointer (some ⟨L5.g, 0, none⟩)] wx (SPost wx (strOf q)) := fun wx h' hp => by
    obtain ⟨F, h1, _⟩ := hp.ex
    exact hper.out wx F L5 h1
  replace hRF := Lib.hid hRF
  replace hS := Lib.hid hS
  replace hP := Lib.hid hP
  clear d5 hper hrf hstr
  have hB0 : Below w5.heap.size w5 w5 := Below.refl _ _
  generalize strOf q = sq at *
  generalize fromP (q.length / 64) (wordsOf q) = Rq at *
  go_wp2_with fail
  go_region_with ((first
    | (go_at_call 19; (with_reducible refine (hRF.out _ ?_).mono ?_); (first | exact hB0 | exact Fr.drew hB0); rintro e wa ⟨h', rfl, f1, bA⟩; have kA : Below w5.heap.size w5 wa := f1.b; have sQ2 := sQ.up kA; have cA := sQ2 _ (Below.refl _ _); have cAd := sQ2 _ (Fr.drew (Below.refl _ _)))
    | (go_at_call 15; (with_reducible refine (hS.out _ _ ?_).mono ?_); (first | exact f1 | exact f1.drew); rintro e wb ⟨rfl, f2⟩; have kB : Below w5.heap.size w5 wb := f2.b; have sQ3 := sQ.up kB; have cB := sQ3 _ (Below.refl _ _); have cBd := sQ3 _ (Fr.drew (Below.refl _ _)))
    | (go_at_call 20; (with_reducible refine (hP.out _ h' ?_).mono ?_); (first | exact f2 | exact f2.drew); rintro e wc ⟨vp, rfl, sP, bP⟩; have f3 : FrSt w5 L5 h' Rq wc := (by first | exact f2.below bP | exact f2.drew.below bP); have kC : Below w5.heap.size w5 wc := f3.b; have sQ4 := sQ.up kC; have cC := sQ4 _ (Below.refl _ _); have cCd := sQ4 _ (Fr.drew (Below.refl _ _)); have cP := sP _ (Below.refl _ _); have cPd := sP _ (Fr.drew (Below.refl _ _)))))
  all_goals
    have kE : Below W.heap.size W wc := b8.trans (f3.b.mono b8.size)
    clear f1 f2 f3
    go_wp2_with fail
    go_ret
    exact ⟨rfl, by first | exact kE | exact Fr.drew kE⟩
set_option maxHeartbeats 8000000 in
set_option maxRecDepth 100000 in
theorem news_G1 (W : World) (n : Int) (hn : 1 ≤ n ∧ n ≤ 4096) (a : Option Addr) (c : Nat) (p : List Nat) (hp : BytesIn W a c p) (hl : (p.take 400).length % 64 ≠ 0) :
    Calls Try.prog 3 #[.int .i64 n, .slice a p.length c] W (NewsEnd W) := by
  obtain ⟨hn1, hn2⟩ := hn
  have hd1 : decide (n < 1) = false := decide_eq_false (by omega)
  have hd2 : decide (4096 < n) = false := decide_eq_false (by omega)
  have hd5 : ¬ 5000 < n := by omega
  have hd3 : ¬ n < 1 := by omega
  have hd4 : ¬ 4096 < n := by omega
  have hnew : ∀ wx, Calls Try.prog 14 #[.int .i64 n] wx (fun e w' => ∃ L F', e = .returned (.tuple #[.pointer (some ⟨L.g, 0, none⟩), .int .i64 0]) ∧ DevSt w' F' 0 L 0 (newP n.toNat) ∧ Below wx.heap.size wx w') := fun wx => by
    have := new_any wx noOwn 0 n.toNat (by omega) (by omega)
    rw [show ((n.toNat : Nat) : Int) = n by omega] at this
    exact this.mono fun e w' ⟨L, F', he, hd, _, hb⟩ => ⟨L, F', he, hd, hb⟩
  have hrn : ∀ wx F, Calls Try.prog 16 #[.int .i64 n] wx (RNewPost wx F 1 (newP n.toNat)) := fun wx F => by
    have := rnew_any wx F 1 n.toNat (by omega) (by omega)
    rw [show ((n.toNat : Nat) : Int) = n by omega] at this
    exact this
  replace hrn := Lib.hid hrn
  have hsh := fun wx (hB : Below W.heap.size W wx) => short_any (hp.kept hB) 400 400 rfl
  have hq := hp.take 400
  have hq4 := len_take_le p 400
  generalize p.take 400 = q at *
  have hq64 : ((q.length : Int) % 64 != 0) = true := by rw [bne_iff_ne]; omega
  have hfr := fun wx (hB : Below W.heap.size W wx) => from_form (hq.kept hB) hl
  replace hl := Lib.hid hl
  replace hsh := Lib.hid hsh
  replace hnew := Lib.hid hnew
  replace hfr := Lib.hid hfr
  replace hq := Lib.hid hq
  clear hp
  unfold NewsEnd
  go_enter Try.func3, Try.ntmps3
  go_wp2_with fail
  refine (awake_any _).mono ?_
  rintro e w1 ⟨rfl, b1⟩
  go_wp2_with fail
  refine (hsh.out _ b1).mono ?_
  rintro e w' ⟨rfl, rfl⟩
  go_wp2_with fail
  refine (hnew.out _).mono ?_
  rintro e w2 ⟨L, F2, rfl, d2, b2⟩
  have b3 := b1.trans (b2.mono b1.size)
  clear b1 b2
  have hto := fun (wx : World) => thread_out (w := wx) L.g
  replace hto := Lib.hid hto
  go_wp2_with fail
  refine (hrn.out _ F2).mono ?_
  rintro e w3 ⟨h, F3, rfl, r3, x3, b4⟩
  have d3 := d2.belowX b4 x3
  have b5 := b3.trans (b4.mono b3.size)
  clear b4 b3 d2 x3
  go_wp2_with fail
  refine (same_any d3 r3).mono ?_
  rintro e w4 ⟨rfl, b6⟩
  have b1 := b5.trans (b6.mono b5.size)
  clear b5 b6 d3 r3
  go_wp2_with fail
  refine (hto.out _ (-1) (.inl (by omega))).mono ?_
  rintro e w' ⟨rfl, rfl⟩
  go_wp2_with fail
  refine (hto.out _ 8 (.inr (by omega))).mono ?_
  rintro e w' ⟨rfl, rfl⟩
  go_wp2_with fail
  refine (hfr.out _ b1).mono ?_
  rintro e w' ⟨rfl, rfl⟩
  go_wp2_with fail
  go_ret
  exact ⟨rfl, b1⟩
set_option maxHeartbeats 8000000 in
set_option maxRecDepth 100000 in
theorem news_G2 (W : World) (n : Int) (hn : 1 ≤ n ∧ n ≤ 4096) (a : Option Addr) (c : Nat) (p : List Nat) (hp : BytesIn W a c p) (hl : (p.take 400).length = 0) :
    Calls Try.prog 3 #[.int .i64 n, .slice a p.length c] W (NewsEnd W) := by
  obtain ⟨hn1, hn2⟩ := hn
  have hd1 : decide (n < 1) = false := decide_eq_false (by omega)
  have hd2 : decide (4096 < n) = false := decide_eq_false (by omega)
  have hd5 : ¬ 5000 < n := by omega
  have hd3 : ¬ n < 1 := by omega
  have hd4 : ¬ 4096 < n := by omega
  have hnew : ∀ wx, Calls Try.prog 14 #[.int .i64 n] wx (fun e w' => ∃ L F', e = .returned (.tuple #[.pointer (some ⟨L.g, 0, none⟩), .int .i64 0]) ∧ DevSt w' F' 0 L 0 (newP n.toNat) ∧ Below wx.heap.size wx w') := fun wx => by
    have := new_any wx noOwn 0 n.toNat (by omega) (by omega)
    rw [show ((n.toNat : Nat) : Int) = n by omega] at this
    exact this.mono fun e w' ⟨L, F', he, hd, _, hb⟩ => ⟨L, F', he, hd, hb⟩
  have hrn : ∀ wx F, Calls Try.prog 16 #[.int .i64 n] wx (RNewPost wx F 1 (newP n.toNat)) := fun wx F => by
    have := rnew_any wx F 1 n.toNat (by omega) (by omega)
    rw [show ((n.toNat : Nat) : Int) = n by omega] at this
    exact this
  replace hrn := Lib.hid hrn
  have hsh := fun wx (hB : Below W.heap.size W wx) => short_any (hp.kept hB) 400 400 rfl
  have hq := hp.take 400
  have hq4 := len_take_le p 400
  generalize p.take 400 = q at *
  rw [hl] at hsh
  have hfr := fun wx => from_arg (w := wx) (a := a) (c := c)
  replace hsh := Lib.hid hsh
  replace hnew := Lib.hid hnew
  replace hfr := Lib.hid hfr
  replace hq := Lib.hid hq
  clear hp
  unfold NewsEnd
  go_enter Try.func3, Try.ntmps3
  go_wp2_with fail
  refine (awake_any _).mono ?_
  rintro e w1 ⟨rfl, b1⟩
  go_wp2_with fail
  refine (hsh.out _ b1).mono ?_
  rintro e w' ⟨rfl, rfl⟩
  go_wp2_with fail
  refine (hnew.out _).mono ?_
  rintro e w2 ⟨L, F2, rfl, d2, b2⟩
  have b3 := b1.trans (b2.mono b1.size)
  clear b1 b2
  have hto := fun (wx : World) => thread_out (w := wx) L.g
  replace hto := Lib.hid hto
  go_wp2_with fail
  refine (hrn.out _ F2).mono ?_
  rintro e w3 ⟨h, F3, rfl, r3, x3, b4⟩
  have d3 := d2.belowX b4 x3
  have b5 := b3.trans (b4.mono b3.size)
  clear b4 b3 d2 x3
  go_wp2_with fail
  refine (same_any d3 r3).mono ?_
  rintro e w4 ⟨rfl, b6⟩
  have b1 := b5.trans (b6.mono b5.size)
  clear b5 b6 d3 r3
  go_wp2_with fail
  refine (hto.out _ (-1) (.inl (by omega))).mono ?_
  rintro e w' ⟨rfl, rfl⟩
  go_wp2_with fail
  refine (hto.out _ 8 (.inr (by omega))).mono ?_
  rintro e w' ⟨rfl, rfl⟩
  go_wp2_with fail
  refine (hfr.out _).mono ?_
  rintro e w' ⟨rfl, rfl⟩
  go_wp2_with fail
  go_ret
  exact ⟨rfl, b1⟩
set_option maxHeartbeats 8000000 in
set_option maxRecDepth 100000 in
theorem news_G3 (W : World) (n : Int) (hn : 1 ≤ n ∧ n ≤ 4096) (a : Option Addr) (c : Nat) (p : List Nat) (hp : BytesIn W a c p) (hl : (p.take 400).length % 64 = 0 ∧ 0 < (p.take 400).length) :
    Calls Try.prog 3 #[.int .i64 n, .slice a p.length c] W (NewsEnd W) := by
  obtain ⟨hn1, hn2⟩ := hn
  have hd1 : decide (n < 1) = false := decide_eq_false (by omega)
  have hd2 : decide (4096 < n) = false := decide_eq_false (by omega)
  have hd5 : ¬ 5000 < n := by omega
  have hd3 : ¬ n < 1 := by omega
  have hd4 : ¬ 4096 < n := by omega
  have hnew : ∀ wx, Calls Try.prog 14 #[.int .i64 n] wx (fun e w' => ∃ L F', e = .returned (.tuple #[.pointer (some ⟨L.g, 0, none⟩), .int .i64 0]) ∧ DevSt w' F' 0 L 0 (newP n.toNat) ∧ Below wx.heap.size wx w') := fun wx => by
    have := new_any wx noOwn 0 n.toNat (by omega) (by omega)
    rw [show ((n.toNat : Nat) : Int) = n by omega] at this
    exact this.mono fun e w' ⟨L, F', he, hd, _, hb⟩ => ⟨L, F', he, hd, hb⟩
  have hrn : ∀ wx F, Calls Try.prog 16 #[.int .i64 n] wx (RNewPost wx F 1 (newP n.toNat)) := fun wx F => by
    have := rnew_any wx F 1 n.toNat (by omega) (by omega)
    rw [show ((n.toNat : Nat) : Int) = n by omega] at this
    exact this
  replace hrn := Lib.hid hrn
  have hsh := fun wx (hB : Below W.heap.size W wx) => short_any (hp.kept hB) 400 400 rfl
  have hq := hp.take 400
  have hq4 := len_take_le p 400
  generalize p.take 400 = q at *
  obtain ⟨hl1, hl2⟩ := hl
  have hq64 : ((q.length : Int) % 64 != 0) = false := by rw [bne_eq_false_iff_eq]; omega
  have hq0 : ((q.length : Int) == 0) = false := by rw [beq_eq_false_iff_ne]; omega
  have hbw := bytes_words q hq.lt (by omega)
  have hwl : (wordsOf q).length = q.length / 64 * 8 := by rw [wordsOf_len]; omega
  have hwlt := wordsOf_lt q hq.lt
  have hfr : ∀ wx (hB : Below W.heap.size W wx), Calls Try.prog 18 #[.slice a q.length c] wx (fun e w' => ∃ L F', e = .returned (.tuple #[.pointer (some ⟨L.g, 0, none⟩), .int .i64 0]) ∧ DevSt w' F' 0 L 0 (fromP (q.length / 64) (wordsOf q)) ∧ Below wx.heap.size wx w') := fun wx hB => by
    have hin := hq.kept hB
    rw [← hbw] at hin
    have := from_any noOwn 0 hin (q.length / 64) hwl (by omega) (by omega) hwlt
    rw [hbw] at this
    exact this.mono fun e w' ⟨L, F', he, hd, _, hb⟩ => ⟨L, F', he, hd, hb⟩
  have hrf : ∀ wx (hB : Below W.heap.size W wx) (F : Own), Calls Try.prog 19 #[.slice a q.length c] wx (RNewPost wx (F.drop 1) 1 (fromP (q.length / 64) (wordsOf q))) := fun wx hB (F : Own) => by
    have hin := hq.kept hB
    rw [← hbw] at hin
    have := rfrom_any (F.drop 1) 1 (fun k r _ => F.drop_ne 1 k r) hin (q.length / 64) hwl (by omega) (by omega) hwlt
    rw [hbw] at this
    exact this
  have hper : ∀ wx F L, DevSt wx F 0 L 0 (fromP (q.length / 64) (wordsOf q)) → Calls Try.prog 20 #[.pointer (some ⟨L.g, 0, none⟩)] wx (SPost wx (strOf q)) := fun wx F L hd => by
    have := persisted_any hd
    rw [fromP_per _ _ hwl, hbw] at this
    exact this.mono fun e w' ⟨b, h1, h2, h3, _⟩ => ⟨_, h1, h2.str hq.lt _, h3⟩
  have hstr := fun wx (hB : Below W.heap.size W wx) => ((hq.kept hB).r).str hq.lt hl2
  replace hstr := Lib.hid hstr
  replace hrf := Lib.hid hrf
  replace hper := Lib.hid hper
  replace hbw := Lib.hid hbw
  replace hwl := Lib.hid hwl
  replace hwlt := Lib.hid hwlt
  replace hl1 := Lib.hid hl1
  replace hsh := Lib.hid hsh
  replace hnew := Lib.hid hnew
  replace hfr := Lib.hid hfr
  replace hq := Lib.hid hq
  clear hp
  unfold NewsEnd
  go_enter Try.func3, Try.ntmps3
  go_wp2_with fail
  refine (awake_any _).mono ?_
  rintro e w1 ⟨rfl, b1⟩
  go_wp2_with fail
  refine (hsh.out _ b1).mono ?_
  rintro e w' ⟨rfl, rfl⟩
  go_wp2_with fail
  refine (hnew.out _).mono ?_
  rintro e w2 ⟨L, F2, rfl, d2, b2⟩
  have b3 := b1.trans (b2.mono b1.size)
  clear b1 b2
  have hto := fun (wx : World) => thread_out (w := wx) L.g
  replace hto := Lib.hid hto
  go_wp2_with fail
  refine (hrn.out _ F2).mono ?_
  rintro e w3 ⟨h, F3, rfl, r3, x3, b4⟩
  have d3 := d2.belowX b4 x3
  have b5 := b3.trans (b4.mono b3.size)
  clear b4 b3 d2 x3
  go_wp2_with fail
  refine (same_any d3 r3).mono ?_
  rintro e w4 ⟨rfl, b6⟩
  have b1 := b5.trans (b6.mono b5.size)
  clear b5 b6 d3 r3
  go_wp2_with fail
  refine (hto.out _ (-1) (.inl (by omega))).mono ?_
  rintro e w' ⟨rfl, rfl⟩
  go_wp2_with fail
  refine (hto.out _ 8 (.inr (by omega))).mono ?_
  rintro e w' ⟨rfl, rfl⟩
  go_wp2_with fail
  refine (hfr.out _ b1).mono ?_
  rintro e w5 ⟨L5, F5, rfl, d5, b7⟩
  have b8 := b1.trans (b7.mono b1.size)
  clear b7 b1
  have sQ := hstr.out w5 b8
  have cQ := sQ _ (Below.refl _ _)
  have cQd := sQ _ (Fr.drew (Below.refl _ _))
  have hRF : ∀ wx, Below w5.heap.size w5 wx → Calls Try.prog 19 #[.slice a q.length c] wx (fun e w' => ∃ h', e = .returned (.pointer (some ⟨h', 0, none⟩)) ∧ FrSt w5 L5 h' (fromP (q.length / 64) (wordsOf q)) w' ∧ Below wx.heap.size wx w') := fun wx hB => by
    refine (hrf.out wx (b8.trans (hB.mono b8.size)) F5).mono ?_
    rintro e w' ⟨h', F', rfl, r, x, b⟩
    exact ⟨h', rfl, ⟨⟨F', ((d5.below hB).retag (F5.drop_keep (by omega))).belowX b x, r⟩, hB.trans (b.mono hB.size)⟩, b⟩
  have hS : ∀ wx h', FrSt w5 L5 h' (fromP (q.length / 64) (wordsOf q)) wx → Calls Try.prog 15 #[.pointer (some ⟨L5.g, 0, none⟩), .pointer (some ⟨h', 0, none⟩)] wx fun e w' => e = .returned (.bool true) ∧ FrSt w5 L5 h' (fromP (q.length / 64) (wordsOf q)) w' := fun wx h' hp => hp.same
  have hP : ∀ wx h', FrSt w5 L5 h' (fromP (q.length / 64) (wordsOf q)) wx → Calls Try.prog 20 #[.pointer (some ⟨L5.g, 0, none⟩)] wx (SPost wx (strOf q)) := fun wx h' hp => by
    obtain ⟨F, h1, _⟩ := hp.ex
    exact hper.out wx F L5 h1
  replace hRF := Lib.hid hRF
  replace hS := Lib.hid hS
  replace hP := Lib.hid hP
  clear d5 hper hrf hstr
  have hB0 : Below w5.heap.size w5 w5 := Below.refl _ _
  generalize strOf q = sq at *
  generalize fromP (q.length / 64) (wordsOf q) = Rq at *
  go_wp2_with fail
  go_region_with ((first
    | (go_at_call 19; (with_reducible refine (hRF.out _ ?_).mono ?_); (first | exact hB0 | exact Fr.drew hB0); rintro e wa ⟨h', rfl, f1, bA⟩; have kA : Below w5.heap.size w5 wa := f1.b; have sQ2 := sQ.up kA; have cA := sQ2 _ (Below.refl _ _); have cAd := sQ2 _ (Fr.drew (Below.refl _ _)))
    | (go_at_call 15; (with_reducible refine (hS.out _ _ ?_).mono ?_); (first | exact f1 | exact f1.drew); rintro e wb ⟨rfl, f2⟩; have kB : Below w5.heap.size w5 wb := f2.b; have sQ3 := sQ.up kB; have cB := sQ3 _ (Below.refl _ _); have cBd := sQ3 _ (Fr.drew (Below.refl _ _)))
    | (go_at_call 20; (with_reducible refine (hP.out _ h' ?_).mono ?_); (first | exact f2 | exact f2.drew); rintro e wc ⟨vp, rfl, sP, bP⟩; have f3 : FrSt w5 L5 h' Rq wc := (by first | exact f2.below bP | exact f2.drew.below bP); have kC : Below w5.heap.size w5 wc := f3.b; have sQ4 := sQ.up kC; have cC := sQ4 _ (Below.refl _ _); have cCd := sQ4 _ (Fr.drew (Below.refl _ _)); have cP := sP _ (Below.refl _ _); have cPd := sP _ (Fr.drew (Below.refl _ _)))))
  all_goals
    have kE : Below W.heap.size W wc := b8.trans (f3.b.mono b8.size)
    clear f1 f2 f3
    go_wp2_with fail
    go_ret
    exact ⟨rfl, by first | exact kE | exact Fr.drew kE⟩
theorem news_walk (W : World) (n : Int) (a : Option Addr) (len cap : Nat) (zs : List Int) (hz : IsRow .u8 W a len cap zs) :
    Calls Try.prog 3 #[.int .i64 n, .slice a len cap] W fun e w' => e = .returned (.bool true) ∧ Below W.heap.size W w' := by
  obtain ⟨p, rfl, hp⟩ := BytesIn.of_row hz
  have hb : (p.take 400).length % 64 ≠ 0 ∨ (p.take 400).length = 0 ∨ ((p.take 400).length % 64 = 0 ∧ 0 < (p.take 400).length) := by omega
  have ha : n < 1 ∨ (4096 < n ∧ n ≤ 5000) ∨ 5000 < n ∨ (1 ≤ n ∧ n ≤ 4096) := by omega
  rcases ha with ha | ha | ha | ha <;> rcases hb with hb | hb | hb
  · exact news_X1 W n ha a cap p hp hb
  · exact news_X2 W n ha a cap p hp hb
  · exact news_X3 W n ha a cap p hp hb
  · exact news_Y1 W n ha a cap p hp hb
  · exact news_Y2 W n ha a cap p hp hb
  · exact news_Y3 W n ha a cap p hp hb
  · exact news_Z1 W n ha a cap p hp hb
  · exact news_Z2 W n ha a cap p hp hb
  · exact news_Z3 W n ha a cap p hp hb
  · exact news_G1 W n ha a cap p hp hb
  · exact news_G2 W n ha a cap p hp hb
  · exact news_G3 W n ha a cap p hp hb
end Go.Proofs.Ytkmhanjddkplbaa
