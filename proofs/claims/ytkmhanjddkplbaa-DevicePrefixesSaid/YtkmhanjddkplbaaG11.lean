/- DevicePrefixes: the walk. -/
import Derived.Test.YtkmhanjddkplbaaP4
import Derived.Test.YtkmhanjddkplbaaG10
import Derived.Test.YtkmhanjddkplbaaG7
namespace Go.Proofs.Ytkmhanjddkplbaa
open Go.RowKit Go.Maps
variable {w wx : World} {B h T : Nat} {R : Dv} {L : Lay}

/-- Is a word right, as far as the first k stores tell? -/
def okB (v pv off : Nat) (hs : List (Nat × Nat)) (k : Nat) : Bool := decide (v = pv) || (hs.take k).any (fun p => decide (p.1 = off) && decide (p.2 = v))
theorem okB_zero (v pv off : Nat) (hs : List (Nat × Nat)) : okB v pv off hs 0 = decide (v = pv) := by simp [okB]
theorem okB_succ (v pv off : Nat) (hs : List (Nat × Nat)) (k : Nat) (h : k < hs.length) : okB v pv off hs (k + 1) = (okB v pv off hs k || (decide ((hs.getD k (0, 0)).1 = off) && decide ((hs.getD k (0, 0)).2 = v))) := by
  unfold okB
  rw [take_getD hs k (0, 0) h, List.any_append, Bool.or_assoc]
  simp
theorem okB_all (v pv off : Nat) (hs : List (Nat × Nat)) (h : v = pv ∨ ∃ p ∈ hs, p.1 = off ∧ p.2 = v) : okB v pv off hs hs.length = true := by
  unfold okB
  rw [List.take_length, Bool.or_eq_true]
  rcases h with h | ⟨p, hp, h1, h2⟩
  · exact .inl (by simpa using h)
  · exact .inr (List.any_eq_true.2 ⟨p, hp, by simp [h1, h2]⟩)
theorem beq_nat (v pv : Nat) : ((v : Int) == (pv : Int)) = decide (v = pv) := by
  by_cases h : v = pv
  · subst h; simp
  · have h2 : ¬ (v : Int) = (pv : Int) := by omega
    rw [decide_eq_false h, beq_eq_false_iff_ne]; exact h2
set_option maxHeartbeats 8000000 in
set_option maxRecDepth 100000 in
theorem prefixes_walk (W : World) (lines : Int) (a : Option Addr) (c : Nat) (xs : List Evt) (hr : RunIn W lines a c xs) (ca : Option Addr) (clen cc : Nat) (zs : List Int) (hz : IsRow .u8 W ca clen cc zs) :
    Calls Try.prog 6 #[.agg #[.int .i64 lines, .slice a xs.length c], .slice ca clen cc] W fun e w' => e = .returned (.bool true) ∧ Below W.heap.size W w' := by
  obtain ⟨ch0, rfl, hch0⟩ := BytesIn.of_row hz
  have hb1 : Below W.heap.size W (W.alloc (.cells #[.int .i64 lines, .slice a xs.length c] 40)) := (Below.refl _ _).alloc (Nat.le_refl _) _
  have hpl := hr.play hb1 40 40 rfl (by omega)
  have hsh := short_any (hch0.kept hb1) 20 20 rfl
  have hch := hch0.take 20
  generalize ch0.take 20 = ch at *
  generalize playP (newP (nLines lines)) (xs.take 40) = R at *
  have c0 := (Has.new W [.int .i64 lines, .slice a xs.length c] 40).cell (o := 0) rfl
  have c1 := (Has.new W [.int .i64 lines, .slice a xs.length c] 40).cell (o := 1) rfl
  replace hpl := Lib.hid hpl
  replace hb1 := Lib.hid hb1
  replace hsh := Lib.hid hsh
  replace hch := Lib.hid hch
  clear hr hz hch0
  go_enter Try.func6, Try.ntmps6
  go_wp2_with fail
  refine hsh.out.mono ?_
  rintro e w' ⟨rfl, rfl⟩
  go_wp2_with fail
  refine hpl.out.mono ?_
  rintro e w1 ⟨L, h, rfl, t1⟩
  have b1 := hb1.out.trans (t1.b.mono hb1.out.size)
  clear hpl hb1 c0 c1 hsh
  go_wp2_with fail
  refine (awake_any _).mono ?_
  rintro e w2 ⟨rfl, b2⟩
  have t2 := t1.below b2
  have b3 := b1.trans (b2.mono b1.size)
  clear b1 b2 t1
  go_wp2_with fail
  refine (t2.image (hch.out.kept b3)).mono ?_
  rintro e w3 ⟨b, rfl, hh, bb, _⟩
  have t3 := t2.below bb
  have b4 := b3.trans (bb.mono b3.size)
  have hok := t3.ok
  have n1 := hok.n1
  have n2 := hok.n2
  have hcl := crashW_len hok (chK R ch)
  have hbl : (bytesL (imageW R ch)).length = R.lines.length * 64 := by rw [bytesL_len]; unfold imageW; rw [hcl]; omega
  have hli : ∀ wx, Below w3.heap.size w3 wx → Calls Try.prog 22 #[.pointer (some ⟨L.g, 0, none⟩)] wx (fun e w' => e = .returned (.int .i64 (R.lines.length : Int)) ∧ wx = w') := fun wx hB => by
    obtain ⟨F, h1, _⟩ := (t3.below hB).ex
    exact lines_any h1
  have hpre : ∀ wx, Below w3.heap.size w3 wx → ∀ i, i < R.lines.length → Calls Try.prog 32 #[.pointer (some ⟨L.g, 0, none⟩), .slice (some ⟨b, 0, none⟩) (bytesL (imageW R ch)).length (bytesL (imageW R ch)).length, .int .i64 (i : Int)] wx fun e w' => e = .returned (.bool true) ∧ Below wx.heap.size wx w' := fun wx hB i hi => by
    obtain ⟨F, h1, _⟩ := (t3.below hB).ex
    exact prefix_any h1 (chK R ch) b (hh.only (Only.of_below hB) (Nat.not_le.2 hh.lt)) i hi (chK_le R ch i)
  replace hli := Lib.hid hli
  replace hpre := Lib.hid hpre
  generalize (bytesL (imageW R ch)).length = m at *
  have hmne : ((m : Int) != 64 * (R.lines.length : Int)) = false := by rw [bne_eq_false_iff_eq]; omega
  replace hbl := Lib.hid hbl
  replace hcl := Lib.hid hcl
  have kB : Below w3.heap.size w3 w3 := Below.refl _ _
  clear t2 b3 bb
  go_wp2_with fail
  refine (hli.out _ kB).mono ?_
  rintro e w' ⟨rfl, rfl⟩
  go_wp2_with fail
  refine (hli.out _ kB).mono ?_
  rintro e w' ⟨rfl, rfl⟩
  go_wp2_with fail
  have hlwI : ∀ wx, Below w3.heap.size w3 wx → ∀ i j, i < R.lines.length → j < 8 → Calls Try.prog 33 #[.slice (some ⟨b, 0, none⟩) m m, .int .u64 ((64 * i + 8 * j : Nat) : Int)] wx fun e w' => e = .returned (.int .u64 (((imageW R ch).getD (8 * i + j) 0 : Nat) : Int)) ∧ wx = w' := fun wx hB i j hi hj => by
    have := lword_any (Rd.of_has (hh.only (Only.of_below hB) (Nat.not_le.2 hh.lt)) (bytesL (imageW R ch)).length (bytesL (imageW R ch)).length) (by unfold imageW; rw [hcl.out]; omega) (by unfold imageW; exact crashW_lt hok _) (64 * i + 8 * j) (by omega) (by unfold imageW; rw [hcl.out]; omega)
    rw [show (64 * i + 8 * j) / 8 = 8 * i + j by omega] at this
    have hml : (bytesL (imageW R ch)).length = m := by rw [bytesL_len, hbl.out]; unfold imageW; rw [hcl.out]; omega
    rw [hml] at this
    exact this
  have hper : ∀ wx, Below w3.heap.size w3 wx → Calls Try.prog 20 #[.pointer (some ⟨L.g, 0, none⟩)] wx (BytesPost wx (bytesL R.perW)) := fun wx hB => by
    obtain ⟨F, h1, _⟩ := (t3.below hB).ex
    exact persisted_any h1
  have hlwP : ∀ wx q, Has wx q (u8s (bytesL R.perW)) 5 → ∀ i j, i < R.lines.length → j < 8 → Calls Try.prog 33 #[.slice (some ⟨q, 0, none⟩) (bytesL R.perW).length (bytesL R.perW).length, .int .u64 ((64 * i + 8 * j : Nat) : Int)] wx fun e w' => e = .returned (.int .u64 ((R.perW.getD (8 * i + j) 0 : Nat) : Int)) ∧ wx = w' := fun wx q hq i j hi hj => by
    have := lword_any (Rd.of_has hq (bytesL R.perW).length (bytesL R.perW).length) (by rw [hok.perLen]; omega) hok.per_lt (64 * i + 8 * j) (by omega) (by rw [hok.perLen]; omega)
    rw [show (64 * i + 8 * j) / 8 = 8 * i + j by omega] at this
    exact this
  have hhis : ∀ wx, Below w3.heap.size w3 wx → ∀ i, i < R.lines.length → Calls Try.prog 34 #[.pointer (some ⟨L.g, 0, none⟩), .int .i64 (i : Int)] wx (ClonePost wx 61 2 (R.line i).hist.length (wcells (R.line i).hist)) := fun wx hB i hi => by
    obtain ⟨F, h1, _⟩ := (t3.below hB).ex
    exact history_any h1 hi
  have hfrom := fun i (hi : i < R.lines.length) j (hj : j < 8) => image_from hok (chK R ch) hi hj
  have hhl := fun i (hi : i < R.lines.length) => show (R.line i).hist.length ≤ 100000 by have := (hok.ln i hi).hl; have := hok.t; omega
  replace hhl := Lib.hid hhl
  have hfin : ∀ wx, Below w3.heap.size w3 wx → Below W.heap.size W wx := fun wx hB => b4.trans (hB.mono b4.size)
  replace hlwI := Lib.hid hlwI
  replace hper := Lib.hid hper
  replace hlwP := Lib.hid hlwP
  replace hhis := Lib.hid hhis
  replace hfrom := Lib.hid hfrom
  replace hfin := Lib.hid hfin
  clear t3 hh hok b4 hmne
  go_loopw [37] (fun v wr => ∃ i : Nat, i ≤ R.lines.length ∧ v = .int .i64 i ∧ Below w3.heap.size w3 wr) (fun v _ => R.lines.length - (intOf v).toNat)
  case atStart => exact ⟨0, Nat.zero_le _, rfl, kB⟩
  case round =>
    clear kB
    obtain ⟨i, hi, rfl, kB⟩ := hrel
    by_cases hlt : i < R.lines.length
    · have hiI : (i : Int) < (R.lines.length : Int) := by omega
      have hp := Lib.hid (hpre.out wr kB i hlt)
      go_wp2_with fail
      refine hp.out.mono ?_
      rintro e w4 ⟨rfl, b5⟩
      have kC := kB.trans (b5.mono kB.size)
      clear hp b5 kB
      have hoff0 : 64 * (i : Int) = ((64 * i + 8 * 0 : Nat) : Int) := by omega
      replace hoff0 := Lib.hid hoff0
      go_wp2_with fail
      go_loopw [9] (fun v wr => ∃ j off : Nat, j ≤ 8 ∧ off = 64 * i + 8 * j ∧ v = .int .u64 (off : Int) ∧ Below w3.heap.size w3 wr) (fun v _ => 64 * i + 64 - (intOf v).toNat)
      case atStart => exact ⟨0, 64 * i, by omega, by omega, by simp, kC⟩
      case round =>
        clear kC
        obtain ⟨j, off, hj, hof, rfl, kB⟩ := hrel
        by_cases hj8 : j < 8
        · have hd1 : decide ((off : Int) < 64 * (i : Int) + 64) = true := decide_eq_true (by omega)
          have hd1' : (off : Int) < 64 * (i : Int) + 64 := by omega
          have ci := hlwI.out wr kB i j hlt hj8
          have cp := hper.out wr kB
          have hfr := hfrom.out i hlt j hj8
          have cl := fun wz q hq => hlwP.out wz q hq i j hlt hj8
          have cI := fun wz hB => hlwI.out wz hB i j hlt hj8
          rw [← hof] at ci cl hfr cI
          have hfr' : (imageW R ch).getD (8 * i + j) 0 = R.perW.getD (8 * i + j) 0 ∨ ∃ p ∈ (R.line i).hist, p.1 = off ∧ p.2 = (imageW R ch).getD (8 * i + j) 0 := hfr
          have chis := fun wz hB => hhis.out wz hB i hlt
          have hsl := hhl.out i hlt
          generalize (imageW R ch).getD (8 * i + j) 0 = v at *
          generalize R.perW.getD (8 * i + j) 0 = pv at *
          generalize (R.line i).hist = hs at *
          obtain ⟨k0, hk0⟩ : ∃ k0 : Bool, ((v : Int) == (pv : Int)) = k0 := ⟨_, rfl⟩
          have hk0' : k0 = okB v pv off hs 0 := by rw [← hk0, okB_zero]; exact beq_nat v pv
          have hall := okB_all v pv off hs hfr'
          replace hk0' := Lib.hid hk0'
          replace hall := Lib.hid hall
          replace ci := Lib.hid ci
          replace cI := Lib.hid cI
          replace cp := Lib.hid cp
          replace cl := Lib.hid cl
          replace chis := Lib.hid chis
          replace hof := Lib.hid hof
          clear hfr hfr'
          go_wp2_with fail
          refine ci.out.mono ?_
          rintro e w' ⟨rfl, rfl⟩
          go_wp2_with fail
          refine cp.out.mono ?_
          rintro e w6 ⟨q, rfl, hq, b6, _⟩
          have k6 := kB.trans (b6.mono kB.size)
          have cl6 := Lib.hid (cl.out w6 q hq)
          clear cl hq b6 cp kB
          generalize (bytesL R.perW).length = pm at *
          go_wp2_with fail
          refine cl6.out.mono ?_
          rintro e w' ⟨rfl, rfl⟩
          have ch6 := Lib.hid (chis.out w6 k6)
          go_wp2_with fail
          refine ch6.out.mono ?_
          rintro e w7 ⟨ha, hc, rfl, own7, b7, _⟩
          have k7 := k6.trans (b7.mono k6.size)
          have r7 := Rd.of_own own7
          clear own7 b7 k6 cl6 ch6 ci chis
          go_wp2_with fail
          go_loopw [10, 68] (fun ov kv wr => ∃ k : Nat, k ≤ hs.length ∧ kv = .int .i64 k ∧ ov = .bool (okB v pv off hs k) ∧ Below w3.heap.size w3 wr ∧ Below w7.heap.size w7 wr) (fun _ kv _ => hs.length - (intOf kv).toNat)
          case atStart => exact ⟨0, Nat.zero_le _, rfl, by rw [hk0'.out], k7, Below.refl _ _⟩
          case round =>
            clear k7
            obtain ⟨k, hk, rfl, rfl, kB, kD⟩ := hrel
            by_cases hkl : k < hs.length
            · have hkI : (k : Int) < (hs.length : Int) := by omega
              have hk00 : (0 : Int) ≤ (k : Int) := by omega
              have hat := get_of_lt (0, 0) hkl
              obtain ⟨w0, w1c⟩ := wcells_get hs k _ hat
              have hsu := okB_succ v pv off hs k hkl
              obtain ⟨bl, ol, cl', ea, fa⟩ := (r7.kept kD).cells (by omega)
              simp only [Value.slice.injEq, true_and] at ea
              obtain ⟨rfl, ea2⟩ := ea
              have y0 : wr.cell? ⟨bl, ol + k * 2, none⟩ = _ := fa _ _ w0
              have y1 : wr.cell? ⟨bl, ol + k * 2 + 1, none⟩ = _ := fa _ _ w1c
              generalize hs.getD k (0, 0) = x at *
              obtain ⟨po, pw⟩ := x
              simp only at y0 y1 hsu
              have kBx := kB.alloc kB.size (.cells #[.int .u64 (po : Int), .int .u64 (pw : Int)] 61)
              have kDx := kD.alloc kD.size (.cells #[.int .u64 (po : Int), .int .u64 (pw : Int)] 61)
              have qW : Qc (wr.alloc (.cells #[.int .u64 (po : Int), .int .u64 (pw : Int)] 61)) 33 #[.slice (some ⟨b, 0, none⟩) m m, .int .u64 (off : Int)] (.int .u64 (v : Int)) := qc_of fun n => cI.out _ (below_drewN kBx n)
              replace qW := Lib.hid qW
              replace hat := Lib.hid hat
              replace w0 := Lib.hid w0
              replace w1c := Lib.hid w1c
              replace ea2 := Lib.hid ea2
              clear fa
              cases hkb : okB v pv off hs k with
              | true =>
                rw [hkb, Bool.true_or] at hsu
                replace hsu := Lib.hid hsu
                replace hkb := Lib.hid hkb
                go_wp2_with fail
                go_quiet ((go_at_call 33; exact qW.out _))
                go_wp2_with fail
                exact ⟨⟨k + 1, by omega, by go_num, by rw [hsu.out], below_drewN kBx nq, below_drewN kDx nq⟩, by simp [intOf]; omega⟩
              | false =>
                rw [hkb, Bool.false_or] at hsu
                replace hkb := Lib.hid hkb
                by_cases hpo : po = off
                · have e1 : ((po : Int) == (off : Int)) = true := by rw [beq_nat]; simp [hpo]
                  rw [decide_eq_true hpo, Bool.true_and, ← beq_nat] at hsu
                  replace hsu := Lib.hid hsu
                  replace hpo := Lib.hid hpo
                  go_wp2_with fail
                  go_quiet ((go_at_call 33; exact qW.out _))
                  go_wp2_with fail
                  exact ⟨⟨k + 1, by omega, by go_num, by rw [hsu.out], below_drewN kBx nq, below_drewN kDx nq⟩, by simp [intOf]; omega⟩
                · have e1 : ((po : Int) == (off : Int)) = false := by rw [beq_nat]; simp [hpo]
                  rw [decide_eq_false hpo, Bool.false_and] at hsu
                  replace hsu := Lib.hid hsu
                  replace hpo := Lib.hid hpo
                  go_wp2_with fail
                  go_quiet ((go_at_call 33; exact qW.out _))
                  go_wp2_with fail
                  exact ⟨⟨k + 1, by omega, by go_num, by rw [hsu.out], below_drewN kBx nq, below_drewN kDx nq⟩, by simp [intOf]; omega⟩
            · obtain rfl : k = hs.length := by omega
              rw [hall.out]
              have hadd : IntKind.u64.wrap ((off : Int) + 8) = ((off + 8 : Nat) : Int) := by rw [u64_wrap_id _ (by omega) (by have := hof.out; omega)]; omega
              replace hadd := Lib.hid hadd
              go_wp2_with fail
              exact ⟨⟨j + 1, off + 8, by omega, by have := hof.out; omega, by simp, kB⟩, by simp [intOf]; omega⟩
        · obtain rfl : j = 8 := by omega
          have hd1 : decide ((off : Int) < 64 * (i : Int) + 64) = false := decide_eq_false (by omega)
          have hd1' : ¬ (off : Int) < 64 * (i : Int) + 64 := by omega
          replace hof := Lib.hid hof
          go_wp2_with fail
          exact ⟨⟨i + 1, by omega, by go_num, kB⟩, by simp [intOf]; omega⟩
    · obtain rfl : i = R.lines.length := by omega
      have kE := hfin.out _ kB
      go_wp2_with fail
      go_ret
      exact ⟨rfl, kE⟩
end Go.Proofs.Ytkmhanjddkplbaa
