/- The law's prefix. -/
import Derived.Test.YtkmhanjddkplbaaP3
import Derived.Test.YtkmhanjddkplbaaF2
import Derived.Test.YtkmhanjddkplbaaG8
import Derived.Test.YtkmhanjddkplbaaN2
namespace Go.Proofs.Ytkmhanjddkplbaa
open Go.RowKit Go.Maps
variable {w : World} {F : Own} {o T : Nat} {R : Dv} {L : Lay}

/-- A part of a slice that is only read. -/
theorem Rd.part {a : Option Addr} {n c : Nat} {xs : List Value} (h : Rd w (.slice a n c) n xs) {b off : Nat} (ha : a = some ⟨b, off, none⟩) (lo m : Nat) (hm : lo + m ≤ xs.length) (c' : Nat) : Rd w (.slice (some ⟨b, off + lo, none⟩) m c') m ((xs.drop lo).take m) := by
  subst ha
  obtain ⟨a', c2, he, h⟩ := h
  simp only [Value.slice.injEq, true_and] at he
  obtain ⟨rfl, rfl⟩ := he
  refine ⟨_, _, rfl, ?_⟩
  rcases h with ⟨h1, rfl⟩ | ⟨b', off', he, h⟩
  · left
    simp at hm
    exact ⟨by omega, by simp⟩
  · simp only [Option.some.injEq, Addr.mk.injEq, and_true] at he
    obtain ⟨rfl, rfl⟩ := he
    refine .inr ⟨b, off + lo, rfl, fun j u hj => ?_⟩
    rw [List.getElem?_take] at hj
    split at hj
    · rw [List.getElem?_drop] at hj
      rw [show off + lo + j = off + (lo + j) by omega]
      exact h _ u hj
    · cases hj
theorem u8s_line (ws : List Nat) (i : Nat) (h : (i + 1) * 8 ≤ ws.length) : ((u8s (bytesL ws)).drop (64 * i)).take 64 = u8s (bytesL ((ws.drop (8 * i)).take 8)) := by
  rw [← bytes_line ws i h]
  unfold u8s
  rw [List.map_take, List.map_drop]
theorem u8s_one' (l : List Nat) : ∀ u ∈ u8s l, u.oneCell' = true := by
  intro u hu; unfold u8s at hu; simp only [List.mem_map] at hu; obtain ⟨n, _, rfl⟩ := hu; rfl
theorem per_line (hok : R.Ok T) (i : Nat) (hi : i < R.lines.length) : (R.perW.drop (8 * i)).take 8 = (R.line i).base := by
  have := crash_line hok (fun _ => 0) i hi
  rw [crashW_zero] at this
  exact this
theorem pfx_facts (po A j P pv : Nat) (hA : A = po % 64) (hA64 : A ≤ 56) (hj : j < 8) (hP : P = A + j) : Int.tmod (po : Int) 64 = (A : Int) ∧ IntKind.i64.wrap (A : Int) = (A : Int) ∧ IntKind.i64.wrap ((A : Int) + (j : Int)) = (P : Int) ∧
    ∃ sh : Nat, IntKind.i64.wrap (8 * (j : Int)) = (sh : Int) ∧ min sh 64 = sh ∧ decide ((sh : Int) < 0) = false ∧ ∃ z : Nat, Int.fdiv (pv : Int) (2 ^ sh) = (z : Int) ∧ (pv : Int) / 2 ^ sh = (z : Int) ∧ ∃ y : Nat, IntKind.u8.wrap (z : Int) = (y : Int) ∧ pv / 2 ^ (j * 8) % 256 = y := by
  refine ⟨by rw [Int.tmod_eq_emod_of_nonneg (by omega)]; omega, IntWalk.i64_in _ (by omega), by rw [IntWalk.i64_in _ (by omega)]; omega, j * 8, by rw [IntWalk.i64_in _ (by omega)]; omega, by omega, decide_eq_false (by omega), pv / 2 ^ (j * 8), ?_, by simp, pv / 2 ^ (j * 8) % 256, by rw [IntKind.wrap_u8]; simp, rfl⟩
  rw [Int.fdiv_eq_ediv_of_nonneg _ (Int.pow_nonneg (by omega))]; simp
set_option maxHeartbeats 8000000 in
set_option maxRecDepth 100000 in
theorem prefix_any (hD : DevSt w F o L T R) (kf : Nat → Nat) (pb : Nat) (hp : Has w pb (u8s (bytesL (crashW R kf))) 5) (i : Nat) (hi : i < R.lines.length) (hkf : kf i ≤ (R.line i).hist.length) :
    Calls Try.prog 32 #[.pointer (some ⟨L.g, 0, none⟩), .slice (some ⟨pb, 0, none⟩) (bytesL (crashW R kf)).length (bytesL (crashW R kf)).length, .int .i64 (i : Int)] w fun e w' => e = .returned (.bool true) ∧ Below w.heap.size w w' := by
  have hok := hD.ok
  have n2 := hok.n2
  have hcl := crashW_len hok kf
  have hbl : (bytesL (crashW R kf)).length = R.lines.length * 64 := by rw [bytesL_len, hcl]; omega
  have hpl : (bytesL R.perW).length = R.lines.length * 64 := by rw [bytesL_len, hok.perLen]; omega
  have hper : Calls Try.prog 20 #[.pointer (some ⟨L.g, 0, none⟩)] (w.alloc (.cells #[] 5)) (fun e w' => ∃ b, e = .returned (.slice (some ⟨b, 0, none⟩) (R.lines.length * 64) (R.lines.length * 64)) ∧ Rd w' (.slice (some ⟨b, 64 * i, none⟩) 64 (R.lines.length * 64 - 64 * i)) 64 (u8s (bytesL (R.line i).base)) ∧ Below (w.heap.size + 1) (w.alloc (.cells #[] 5)) w') := by
    have := persisted_any (hD.alloc (.cells #[] 5))
    refine this.mono ?_
    rintro e w' ⟨b, rfl, hh, hb, _⟩
    refine ⟨b, by rw [hpl], ?_, by simpa using hb⟩
    have h1 := (Rd.of_has hh (bytesL R.perW).length (bytesL R.perW).length).part rfl (64 * i) 64 (by rw [u8s_len, hpl]; omega) (R.lines.length * 64 - 64 * i)
    rw [u8s_line _ _ (by rw [hok.perLen]; omega), per_line hok i hi, Nat.zero_add] at h1
    exact h1
  have hhis : ∀ wx, Below w.heap.size w wx → Calls Try.prog 34 #[.pointer (some ⟨L.g, 0, none⟩), .int .i64 (i : Int)] wx (ClonePost wx 61 2 (R.line i).hist.length (wcells (R.line i).hist)) := fun wx hB => history_any (hD.below hB) hi
  have hown0 := own_empty w 5 1
  have hi0 : (0 : Int) ≤ 64 * (i : Int) := by omega
  have hi1 : 64 * (i : Int) + 64 ≤ (R.lines.length : Int) * 64 := by omega
  generalize (bytesL (crashW R kf)).length = m at *
  have hmI : 64 * (i : Int) + 64 ≤ (m : Int) := by omega
  have hml : m ≤ 262144 := by omega
  replace hper := Lib.hid hper
  replace hhis := Lib.hid hhis
  replace hbl := Lib.hid hbl
  replace hpl := Lib.hid hpl
  replace hcl := Lib.hid hcl
  go_enter Try.func32, Try.ntmps32
  go_wp2_with fail
  refine hper.out.mono ?_
  rintro e w1 ⟨b, rfl, hr1, B1⟩
  have hown1 := ownsRow_only hown0 (Only.of_below B1) (fun k hk => by simp only [Value.ownBlock, Option.some.injEq] at hk; omega)
  have e64 : 64 * i + 64 - 64 * i = 64 := by omega
  have hb64 : (u8s (bytesL (R.line i).base)).length = (64 * i + 64 - 64 * i) * 1 := by rw [e64, u8s_len, bytesL_len, (hok.ln i hi).b]
  have hr1' : Rd w1 (.slice (some ⟨b, 64 * i, none⟩) (64 * i + 64 - 64 * i) (R.lines.length * 64 - 64 * i)) (64 * i + 64 - 64 * i) (u8s (bytesL (R.line i).base)) := by rw [e64]; exact hr1
  replace e64 := Lib.hid e64
  clear hr1
  go_wp2_with (at_builtin; go_loud (refine wpList_appAll rfl (.tmp 11) (.tmp 19) 22 rfl 5 (.int .u8 0) 1 1 Try.underlying22 infoU8 rfl (by decide) (by decide) _ 0 0 (Nat.le_refl _) [] hown1 rfl _ (64 * i + 64 - 64 * i) _ (u8s (bytesL (R.line i).base)) rfl hr1' hb64 (u8s_one' _) (by omega) ?_); intro sa cap w2 hcap own2 only2 fresh2)
  simp only [Nat.zero_add, List.nil_append, e64.out] at own2 fresh2 hcap ⊢
  obtain ⟨g, rfl⟩ := own_some own2 (by omega)
  have hg : w.heap.size ≤ g := by
    rcases fresh2 g rfl with h5 | h5
    · simp only [Value.ownBlock, Option.some.injEq] at h5; omega
    · have := B1.size; simp at this; omega
  have hgl : g < w2.heap.size := ownsRow_lt own2 (k := g) rfl
  have k2 : Below w.heap.size w w2 := ((((Below.refl w.heap.size w).alloc (Nat.le_refl _) _).trans (B1.mono (by omega))).trans (only2.below (by have := B1.size; simp at this; omega) (fun k _ e => by simp only [Value.ownBlock, Option.some.injEq] at e; omega)))
  have hh := Lib.hid (hhis.out w2 k2)
  clear B1 hr1' hown1 only2 fresh2 hper hhis
  generalize hl : R.line i = l at *
  replace hl := Lib.hid hl
  go_wp2_with fail
  refine hh.out.mono ?_
  rintro e w3 ⟨ha, hc, rfl, own3, b3, fresh3⟩
  have k3 := k2.trans (b3.mono k2.size)
  have o3 : w3.ownsRow 0 5 1 (.slice (some ⟨g, 0, none⟩) 64 cap) 64 (u8s (bytesL (wordsL l 0))) := ownsRow_only own2 (Only.of_below b3) (fun k hk => by simp only [Value.ownBlock, Option.some.injEq] at hk; omega)
  have r3 := Rd.of_own own3
  have hgn : ∀ k, Value.ownBlock (.slice ha l.hist.length hc) = some k → k ≠ g := fun k hk e => by have := fresh3 k hk; omega
  have hpn : pb ≠ g := by have := hp.lt; omega
  have p3 := hp.only (Only.of_below k3) (Nat.not_le.2 hp.lt)
  clear hh own2 k2 own3 b3 fresh3 hp
  have h64 : ∀ k, (bytesL (wordsL l k)).length = 64 := fun k => by rw [bytesL_len, wordsL_len, ← hl.out, (hok.ln i hi).b]
  have hline : ((u8s (bytesL (crashW R kf))).drop (64 * i)).take 64 = u8s (bytesL (wordsL l (kf i))) := by
    rw [u8s_line _ _ (by rw [hcl.out]; omega), crash_line hok kf i hi, hl.out]
  have hphist := (hok.ln i hi).h
  have hhl := (hok.ln i hi).hl
  have hT := hok.t
  rw [hl.out] at hphist hhl
  generalize hkk : kf i = kk at *
  have hps : ∀ wr, Only (fun q => q = g) w3 wr → Str wr (.slice (some ⟨pb, 64 * i, none⟩) 64 (m - 64 * i)) (strOf (bytesL (wordsL l kk))) := fun wr hO => by
    have h1 := (Rd.of_has (p3.only hO hpn) m m).part rfl (64 * i) 64 (by rw [u8s_len, bytesL_len, hcl.out]; omega) (m - 64 * i)
    rw [hline, Nat.zero_add] at h1
    have h2 := h64 kk
    rw [← h2] at h1 ⊢
    exact h1.str (bytesL_256 _) (by omega)
  have hbs : ∀ wr k, wr.ownsRow 0 5 1 (.slice (some ⟨g, 0, none⟩) 64 cap) 64 (u8s (bytesL (wordsL l k))) → Str wr (.slice (some ⟨g, 0, none⟩) 64 cap) (strOf (bytesL (wordsL l k))) := fun wr k ho => by
    have h1 := Rd.of_own ho
    have h2 := h64 k
    rw [← h2] at h1 ⊢
    exact h1.str (bytesL_256 _) (by omega)
  have hfin : ∀ wr, Only (fun q => q = g) w3 wr → Below w.heap.size w wr := fun wr hO => k3.trans (hO.below k3.size (fun k _ e => by omega))
  have hsucc : ∀ k, k < l.hist.length → wordsL l (k + 1) = setW (wordsL l k) (l.hist.getD k (0, 0)) := fun k hk => wordsL_succ l k (0, 0) hk
  have hw8 : ∀ k, (wordsL l k).length = 8 := fun k => by rw [wordsL_len, ← hl.out]; exact (hok.ln i hi).b
  replace hps := Lib.hid hps
  replace hbs := Lib.hid hbs
  replace hfin := Lib.hid hfin
  replace hsucc := Lib.hid hsucc
  replace hw8 := Lib.hid hw8
  replace h64 := Lib.hid h64
  replace hphist := Lib.hid hphist
  replace hkk := Lib.hid hkk
  replace hgn := Lib.hid hgn
  clear hline p3 hD hok
  go_wp2_with fail
  go_loopw [9] (fun v wr => ∃ k : Nat, k ≤ kk ∧ v = .int .i64 k ∧ wr.ownsRow 0 5 1 (.slice (some ⟨g, 0, none⟩) 64 cap) 64 (u8s (bytesL (wordsL l k))) ∧ Only (fun q => q = g) w3 wr) (fun v _ => kk - (intOf v).toNat)
  case atStart => exact ⟨0, Nat.zero_le _, rfl, o3, Only.refl _ _⟩
  case round =>
    clear o3
    obtain ⟨k, hk, rfl, ho, hO⟩ := hrel
    have s1 := hbs.out wr k ho
    have s2 := hps.out wr hO
    have c1 := s1 _ (Below.refl _ _)
    have c1d := s1 _ (Fr.drew (Below.refl _ _))
    have c2 := s2 _ (Below.refl _ _)
    have c2d := s2 _ (Fr.drew (Below.refl _ _))
    have kE := hfin.out wr hO
    have ew1 : IntKind.i64.wrap (64 * (i : Int)) = 64 * (i : Int) := IntWalk.i64_in _ (by omega)
    have ew2 : IntKind.i64.wrap (64 * (i : Int) + 64) = 64 * (i : Int) + 64 := IntWalk.i64_in _ (by omega)
    have et1 : (64 * (i : Int)).toNat = 64 * i := by omega
    have et2 : (64 * (i : Int) + 64).toNat = 64 * i + 64 := by omega
    have hle : 64 * (i : Int) ≤ 64 * (i : Int) + 64 := by omega
    by_cases hkk2 : k < kk
    · by_cases hse : ((strOf (bytesL (wordsL l k))).toList == (strOf (bytesL (wordsL l kk))).toList) = true
      · generalize strOf (bytesL (wordsL l k)) = t1 at *
        generalize strOf (bytesL (wordsL l kk)) = t2 at *
        clear s1 s2
        go_wp2_with fail
        go_region_with (fail)
        all_goals
          clear c1 c1d c2 c2d
          go_wp2_with fail
          go_ret
          exact ⟨rfl, by first | exact kE | exact Fr.drew kE⟩
      · have hse2 : ((strOf (bytesL (wordsL l k))).toList == (strOf (bytesL (wordsL l kk))).toList) = false := by rcases hb : ((strOf (bytesL (wordsL l k))).toList == (strOf (bytesL (wordsL l kk))).toList) with _ | _; exact rfl; exact absurd hb hse
        have hkl : k < l.hist.length := by omega
        have hne : ((k : Int) == (l.hist.length : Int)) = false := by rw [beq_eq_false_iff_ne]; omega
        have hat := get_of_lt (0, 0) hkl
        obtain ⟨hx1, hx2, hx3⟩ := hphist.out _ (List.mem_of_getElem? hat)
        have hsu := hsucc.out k hkl
        have hw := hw8.out k
        have hrl := r3.only hO (fun q hq e => hgn.out q hq e)
        obtain ⟨bl, ol, cl, ea, fa⟩ := hrl.cells (by omega)
        simp only [Value.slice.injEq, true_and] at ea
        obtain ⟨rfl, ea2⟩ := ea
        replace ea2 := Lib.hid ea2
        obtain ⟨w0, w1c⟩ := wcells_get l.hist k _ hat
        have y0 : ∀ wq : World, Only (fun q => q = g) w3 wq → wq.cell? ⟨bl, ol + k * 2, none⟩ = some (.int .u64 (((l.hist.getD k (0, 0)).1 : Nat) : Int)) ∧ wq.cell? ⟨bl, ol + k * 2 + 1, none⟩ = some (.int .u64 (((l.hist.getD k (0, 0)).2 : Nat) : Int)) := fun wq hq => by
          obtain ⟨bl', ol', cl', eb, fb⟩ := (r3.only hq (fun q hq e => hgn.out q hq e)).cells (by omega)
          simp only [Value.slice.injEq, Option.some.injEq, Addr.mk.injEq, true_and, and_true] at eb
          obtain ⟨⟨rfl, rfl⟩, _⟩ := eb
          exact ⟨fb _ _ w0, fb _ _ w1c⟩
        generalize l.hist.getD k (0, 0) = x at *
        obtain ⟨po, pv⟩ := x
        simp only at hx1 hx2 hx3 y0
        have hpos : po % 64 / 8 < (wordsL l k).length := by rw [hw]; omega
        have hms := mix_start (wordsL l k) (po, pv) hpos
        have hme := mix_end (wordsL l k) (po, pv) hpos
        have hby := fun j (hj : j < 8) => mix_byte (wordsL l k) (po, pv) j hpos hj
        have hbl1 : (bytesL (wordsL l k)).length = 64 := by rw [bytesL_len, hw]
        have hbl2 : (bytesL (setW (wordsL l k) (po, pv))).length = 64 := by rw [bytesL_len, setW_len, hw]
        have o4 : wr.ownsRow 0 5 1 (.slice (some ⟨g, 0, none⟩) 64 cap) 64 (u8s (mixB (bytesL (wordsL l k)) (bytesL (setW (wordsL l k) (po, pv))) (8 * (po % 64 / 8) + 0))) := by rw [Nat.add_zero, hms]; exact ho
        have hend : ∀ wq : World, wq.ownsRow 0 5 1 (.slice (some ⟨g, 0, none⟩) 64 cap) 64 (u8s (mixB (bytesL (wordsL l k)) (bytesL (setW (wordsL l k) (po, pv))) (8 * (po % 64 / 8) + 8))) → wq.ownsRow 0 5 1 (.slice (some ⟨g, 0, none⟩) 64 cap) 64 (u8s (bytesL (wordsL l (k + 1)))) := fun wq h => by rw [hme, ← hsu] at h; exact h
        obtain ⟨A, hA⟩ : ∃ A, A = po % 64 := ⟨_, rfl⟩
        have hA8 : 8 * (po % 64 / 8) = A := by omega
        have hA64 : A ≤ 56 := by omega
        rw [hA8] at o4 hend
        have hby2 : ∀ j, j < 8 → (bytesL (setW (wordsL l k) (po, pv)))[A + j]? = some (pv / 2 ^ (j * 8) % 256) := fun j hj => by have := hby j hj; rw [hA8] at this; exact this
        generalize bytesL (setW (wordsL l k) (po, pv)) = b1 at *
        generalize bytesL (wordsL l k) = b0 at *
        generalize strOf b0 = t1 at *
        generalize strOf (bytesL (wordsL l kk)) = t2 at *
        have hyl : 0 ≤ ol := Nat.zero_le _
        have hO2 := hO.drew
        have o5 : wr.drew.ownsRow 0 5 1 (.slice (some ⟨g, 0, none⟩) 64 cap) 64 (u8s (mixB b0 b1 (A + 0))) := o4
        replace hse := Lib.hid hse
        replace hat := Lib.hid hat
        replace hsu := Lib.hid hsu
        replace hw := Lib.hid hw
        replace y0 := Lib.hid y0
        replace w0 := Lib.hid w0
        replace w1c := Lib.hid w1c
        replace hms := Lib.hid hms
        replace hme := Lib.hid hme
        replace hby := Lib.hid hby
        replace hby2 := Lib.hid hby2
        replace hend := Lib.hid hend
        replace hbl1 := Lib.hid hbl1
        replace hbl2 := Lib.hid hbl2
        replace hA := Lib.hid hA
        replace hA8 := Lib.hid hA8
        replace hx1 := Lib.hid hx1
        replace hx2 := Lib.hid hx2
        clear s1 s2 hrl fa hpos ho
        go_wp2_with fail
        go_cut [36] (fun v wx => v = .bool false ∧ wr.drew = wx)
        case first =>
          go_region_with (fail)
          all_goals
            clear c1 c1d c2 c2d
            go_wp2_with fail
            go_meet
            exact ⟨rfl, rfl⟩
        case rest =>
          obtain ⟨rfl, rfl⟩ := hcut
          clear c1 c1d c2 c2d kE hO o4 ew1 ew2 et1 et2
          go_wp2_with fail
          go_loopw [41] (fun v wq => ∃ j : Nat, j ≤ 8 ∧ v = .int .i64 j ∧ wq.ownsRow 0 5 1 (.slice (some ⟨g, 0, none⟩) 64 cap) 64 (u8s (mixB b0 b1 (A + j))) ∧ Only (fun q => q = g) w3 wq) (fun v _ => 8 - (intOf v).toNat)
          case atStart => exact ⟨0, by omega, rfl, o5, hO2⟩
          case round =>
            clear o5 hO2
            obtain ⟨j, hj, rfl, ho, hO⟩ := hrel
            by_cases hj8 : j < 8
            · obtain ⟨z0, z1⟩ := y0.out _ hO
              have em : decide ((j : Int) < 8) = true := decide_eq_true (by omega)
              have hwm := Lib.hid (show wrap64 ((j : Int) + 1) = (j : Int) + 1 by unfold wrap64; omega)
              have hbj := hby2.out j hj8
              have hmixl : (mixB b0 b1 (A + j)).length = 64 := by rw [mixB_len _ _ _ (by rw [hbl1.out, hbl2.out]) (by rw [hbl2.out]; omega)]; exact hbl2.out
              obtain ⟨P, hP⟩ : ∃ P, P = A + j := ⟨_, rfl⟩
              have hP64 : (P : Int) < 64 := by omega
              have hPn : P < 64 := by omega
              have hP0 : (0 : Int) ≤ (P : Int) := by omega
              have hkI : (k : Int) < (l.hist.length : Int) := by omega
              have hk0 : (0 : Int) ≤ (k : Int) := by omega
              have hPl : P < (mixB b0 b1 (A + j)).length := by rw [hmixl]; exact hPn
              have cg : wr.cell? ⟨g, P, none⟩ = some (.int .u8 (((mixB b0 b1 (A + j)).getD P 0 : Nat) : Int)) := by rw [ho.cellAt P (by rw [Nat.mul_one]; exact hPn)]; exact u8s_get _ _ _ (get_of_lt 0 hPl)
              have fg := ho.frozenAt P
              obtain ⟨q0, q1, q2, sh, q3, hmin, hs0, z, q4, q4', y, q5, hyv⟩ := pfx_facts po A j P pv hA.out hA64 hj8 hP
              have hset : (mixB b0 b1 (A + j)).set P y = mixB b0 b1 (A + (j + 1)) := by
                rw [hP, ← Nat.add_assoc]
                exact mixB_set _ _ _ _ (by rw [hbl1.out, hbl2.out]) (by rw [hbj, hyv])
              have o6 := (ho.stored P (.int .u8 (y : Int))).1
              have e6 : (u8s (mixB b0 b1 (A + j))).set P (.int .u8 (y : Int)) = u8s (mixB b0 b1 (A + (j + 1))) := by rw [← hset]; simp [u8s, List.map_set]
              rw [e6] at o6
              have hO6 := hO.setCell (a := ⟨g, P, none⟩) (fun _ => rfl) (.int .u8 (y : Int))
              have o7 : ((wr.setCell ⟨g, P, none⟩ (.int .u8 (y : Int))).drew).ownsRow 0 5 1 (.slice (some ⟨g, 0, none⟩) 64 cap) 64 (u8s (mixB b0 b1 (A + (j + 1)))) := o6
              have hO7 := hO6.drew
              generalize (mixB b0 b1 (A + j)).getD P 0 = old at *
              replace hP := Lib.hid hP
              replace hyv := Lib.hid hyv
              clear hPl
              replace hbj := Lib.hid hbj
              replace hset := Lib.hid hset
              replace e6 := Lib.hid e6
              replace hmixl := Lib.hid hmixl
              replace hj8 := Lib.hid hj8
              replace hj := Lib.hid hj
              replace o7 := Lib.hid o7
              replace hO7 := Lib.hid hO7
              clear ho hO o6 hO6
              go_wp2_with fail
              refine region_tail 20 (by kernel_rfl) (by kernel_rfl) ?_
              simp only [List.take_succ_cons, List.take_zero, List.drop_succ_cons, List.drop_zero]
              repeat still_step
              refine wpStill_nil ?_
              go_wp2_with fail
              rw [hwm.out]
              have hj9 := hj8.out
              clear q0 q1 q2 q3 q4 q4' q5 hmin
              exact ⟨⟨j + 1, by omega, by go_num, o7.out, hO7.out⟩, by simp [intOf]; omega⟩
            · obtain rfl : j = 8 := by omega
              have ho2 := hend.out _ ho
              have em : decide (((8 : Nat) : Int) < 8) = false := rfl
              replace hj := Lib.hid hj
              replace hj8 := Lib.hid hj8
              clear ho y0
              go_wp2_with fail
              exact ⟨⟨k + 1, by omega, by go_num, ho2, hO⟩, by simp [intOf]; omega⟩
    · obtain rfl : k = kk := by omega
      generalize strOf (bytesL (wordsL l k)) = t1 at *
      clear s1 s2
      go_wp2_with fail
      go_region_with (fail)
      all_goals
        clear c1 c1d c2 c2d
        go_wp2_with fail
        go_ret
        exact ⟨rfl, by first | exact kE | exact Fr.drew kE⟩
end Go.Proofs.Ytkmhanjddkplbaa
