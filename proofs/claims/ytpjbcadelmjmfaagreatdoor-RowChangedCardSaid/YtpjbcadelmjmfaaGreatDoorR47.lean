/- The walk of RowChanged. -/
import Derived.Test.YtpjbcadelmjmfaaGreatDoorR39
import Derived.Test.YtpjbcadelmjmfaaGreatDoorR41
import Derived.Test.YtpjbcadelmjmfaaGreatDoorR42
import Derived.Test.YtpjbcadelmjmfaaGreatDoorR44
import Derived.Test.YtpjbcadelmjmfaaGreatDoorR46
import Derived.Test.YtpjbcadelmjmfaaGreatDoorFr4
import Derived.Test.YtpjbcadelmjmfaaGreatDoorDec2
namespace Go.Proofs.YtpjbcadelmjmfaaGreatDoor
open Go.RowKit Go.Lib Go.BigFrame
set_option linter.unusedVariables false

set_option maxHeartbeats 8000000 in
set_option maxRecDepth 100000 in
theorem changed_walk (l : List LC) (hf : ∀ c ∈ l, c.t < 256 ∧ c.d.ty < 256 ∧ c.d.tx.size ≤ 9223372036854775807) (hll : l.length ≤ 9223372036854775807) (a : Option Addr) (cap : Nat)
    (r : List RV) (hrt : ∀ c ∈ r, c.ty < 256 ∧ c.tx.size ≤ 9223372036854775807) (hrl : r.length ≤ 9223372036854775807) (ra : Option Addr) (rc : Nat) (at' : List Nat) (hat : ∀ x ∈ at', x < 65536) (hal : at'.length ≤ 9223372036854775807) (ta : Option Addr) (tc : Nat) (w : World) (hE : Env w)
    (hr : Rd w (.slice a l.length cap) l.length (lCells l)) (hrr : Rd w (.slice ra r.length rc) r.length (vCells r)) (hta : Rd w (.slice ta at'.length tc) at'.length (hcells at')) :
    Calls Tryz.prog 8 #[.slice a l.length cap, .slice ra r.length rc, .slice ta at'.length tc] w (fun e w' => e = .returned (.bool true) ∧ Below w.heap.size w w') := by
  have aw := fun w' (hb : Below w.heap.size w w') => awake_any w' (hE.below hb)
  have gr := fun w' (hb : Below w.heap.size w w') => great_any r ra rc w' (hrr.kept hb) hrl
  have tb := fun w' (hb : Below w.heap.size w w') => table_any l hf hll a cap w' (hr.kept hb)
  have hgn := @great_no r
  obtain ⟨n, hn⟩ : ∃ n, n = min l.length 8 := ⟨_, rfl⟩
  have hg := fun h0 => tab_good l n h0 (by omega) (fun c hc => (hf c hc).2.2)
  have hv1 := verAt_bd l n
  have hct := colsTo_len l n
  unfold TablePost at tb
  rw [← hn] at tb
  generalize colsTo l n = cs at *
  generalize verAt l n = ver at *
  obtain ⟨m, hm⟩ : ∃ m, m = l.length := ⟨_, rfl⟩
  obtain ⟨rl, hrl2⟩ : ∃ m, m = r.length := ⟨_, rfl⟩
  obtain ⟨tl, htl⟩ : ∃ m, m = at'.length := ⟨_, rfl⟩
  rw [← hm] at tb hn ⊢
  rw [← hrl2] at gr hgn ⊢
  rw [← htl] at hal ⊢
  generalize greatP r = g at *
  replace aw := Lib.hid aw
  replace gr := Lib.hid gr
  replace tb := Lib.hid tb
  replace hm := Lib.hid hm
  replace hrl2 := Lib.hid hrl2
  replace htl := Lib.hid htl
  replace hg := Lib.hid hg
  replace hgn := Lib.hid hgn
  replace hv1 := Lib.hid hv1
  clear hr
  go_enter Tryz.func8, Tryz.ntmps8
  go_upto_region 1 with fail
  go_wp2_with fail
  refine (aw.out w (Below.refl _ _)).mono ?_
  rintro e w1 ⟨rfl, hb1⟩
  replace hb1 := Lib.hid hb1
  go_wp2_with fail
  refine (gr.out w1 hb1.out).mono ?_
  rintro e w2 ⟨rfl, hb12⟩
  have hb2 := hb1.out.trans (hb12.mono hb1.out.size)
  clear hb12 gr
  cases g with
  | true =>
    replace hb2 := Lib.hid hb2
    go_wp2_with fail
    refine (aw.out w2 hb2.out).mono ?_
    rintro e w3 ⟨rfl, hb23⟩
    have hff := hb2.out.trans (hb23.mono hb2.out.size)
    replace hff := Lib.hid hff
    clear hb23
    go_wp2_with fail
    go_ret
    exact ⟨rfl, hff.out⟩
  | false =>
    by_cases hm0 : m = 0
    · have d0 : ((m : Int) == 0) = true := by rw [beq_iff_eq]; omega
      replace hb2 := Lib.hid hb2
      replace hm0 := Lib.hid hm0
      go_wp2_with fail
      refine (aw.out w2 hb2.out).mono ?_
      rintro e w3 ⟨rfl, hb23⟩
      have hff := hb2.out.trans (hb23.mono hb2.out.size)
      replace hff := Lib.hid hff
      clear hb23
      go_wp2_with fail
      go_ret
      exact ⟨rfl, hff.out⟩
    · have d0 : ((m : Int) == 0) = false := by rw [beq_eq_false_iff_ne]; omega
      by_cases ht10 : 10 < tl
      · have d1 : decide ((tl : Int) > 10) = true := decide_eq_true (by omega)
        replace hb2 := Lib.hid hb2
        replace hm0 := Lib.hid hm0
        go_wp2_with fail
        refine (aw.out w2 hb2.out).mono ?_
        rintro e w3 ⟨rfl, hb23⟩
        have hff := hb2.out.trans (hb23.mono hb2.out.size)
        replace hff := Lib.hid hff
        clear hb23
        go_wp2_with fail
        go_ret
        exact ⟨rfl, hff.out⟩
      have d1 : decide ((tl : Int) > 10) = false := decide_eq_false (by omega)
      have d1b : decide (10 < (tl : Int)) = false := decide_eq_false (by omega)
      have ht11 : tl ≤ 10 := by omega
      replace ht10 := Lib.hid ht10
      have hn0 : 0 < n := by omega
      have hn8 : n ≤ 8 := by omega
      have hG := hg.out hn0
      have hr20 := hgn.out rfl
      replace hb2 := Lib.hid hb2
      replace hm0 := Lib.hid hm0
      replace hn := Lib.hid hn
      clear hg hgn
      go_wp2_with fail
      refine (tb.out w2 hb2.out).mono ?_
      rintro e w3 ⟨sa, sc, rfl, hR⟩
      have hb3 := hb2.out.trans (hR.b.mono hb2.out.size)
      clear tb aw hb1
      obtain ⟨W4, hW4⟩ : ∃ W4, W4 = w3.alloc (.cells #[.string tagS, .int .i64 (ver : Int), .slice sa n sc, .slice none 0 0, .int .u64 0, .int .u64 0] 32) := ⟨_, rfl⟩
      have hT : Has W4 w3.heap.size [.string tagS, .int .i64 (ver : Int), .slice sa n sc, .slice none 0 0, .int .u64 0, .int .u64 0] 32 := by rw [hW4]; exact Has.new _ _ _
      have hb34 : Below w3.heap.size w3 W4 := by rw [hW4]; exact (Below.refl _ _).alloc (Nat.le_refl _) _
      have hb4 := hb3.trans (hb34.mono hb3.size)
      have hR4 := (Rd.of_own hR.o).kept hb34
      rw [← hct] at hR4
      have kT := fun w' (hb : Below W4.heap.size W4 w') => hT.only (Only.of_below hb) (Nat.not_le.2 hT.lt)
      have hrr4 := hrr.kept hb4
      have hls : ∀ v ∈ r, v.tx.size ≤ 9223372036854775807 := fun v hv => (hrt v hv).2
      have hrm := hrl2.out
      rw [hrl2.out] at hr20
      have kV := fun w' (hb : Below W4.heap.size W4 w') => values_any r (fun v hv => (hrt v hv).1) ra rc w' (hrr4.kept hb) (by omega)
      have kEok := fun hz w' (hb : Below W4.heap.size W4 w') => rowenc_ok One.tag hG hls (by omega) (hR4.kept hb) (hrr4.kept hb) (hE.below (hb4.trans (hb.mono hb4.size))) hz
      have kEbad := fun hz w' (hb : Below W4.heap.size W4 w') => rowenc_bad One.tag hG hls (by omega) (hR4.kept hb) (hrr4.kept hb) (hE.below (hb4.trans (hb.mono hb4.size))) hz
      have hncap : n ≤ sc := hR.cap
      have kC := fun w' (hb : Below W4.heap.size W4 w') => columns_any tagS (ver : Int) cs hG.tys (by omega) sa sc w' (hR4.kept hb)
      rw [hct] at kC
      have kR : ∀ (p : List Nat) (hp : ∀ x ∈ p, x < 256) (hpl : p.length ≤ 1000000) (pa : Option Addr) (pc : Nat) (hpc : p.length ≤ pc) (s1 : Option Addr) (c1 : Nat) w', Below W4.heap.size W4 w' → Rd w' (.slice s1 n c1) n (rcCells cs) → Rd w' (.slice pa p.length pc) p.length (bcells p) → Calls Tryz.prog 33 #[.int .i64 (ver : Int), .slice s1 n c1, .slice pa p.length pc] w' (RDecPost w' (decP ver cs p)) := by
        intro p hp hpl pa pc hpc s1 c1 w' hb h1 h2
        rw [← hct] at h1
        have h := rdecode_any (ver : Int) cs (by omega) s1 c1 p hp hpl pa pc hpc w' h1 h2
        rw [hct, rdecP_eq hG p hp] at h
        exact h
      have kD := fun (p : List Nat) (hp : ∀ x ∈ p, x < 256) (hpl : p.length ≤ 1000000) (pa : Option Addr) (pc : Nat) (hpc : p.length ≤ pc) w' (hb : Below W4.heap.size W4 w') (hrp : Rd w' (.slice pa p.length pc) p.length (bcells p)) => decode_any tagS 116 One.tag ver cs hG sa sc (by rw [hct]; exact hncap) p hp hpl pa pc hpc w' (hE.below (hb4.trans (hb.mono hb4.size))) (hR4.kept hb) hrp
      rw [← hrl2.out] at kEok kEbad
      rw [hct] at kEok kEbad kD
      obtain ⟨P, hP⟩ : ∃ P, P = rowP cs r := ⟨_, rfl⟩
      rw [← hP] at kEok kEbad
      have kE : ∀ w', Below W4.heap.size W4 w' → Calls Tryz.prog 16 #[.agg #[.string tagS, .int .i64 (ver : Int), .slice sa n sc, .slice none 0 0, .int .u64 0, .int .u64 0], .slice ra rl rc] w' (EncV w' ver r P) := by
        intro w' hb
        by_cases h0 : P = 0
        · rw [h0]
          exact (kEok h0 w' hb).mono fun _ _ h => EncV.ok h
        · exact (kEbad h0 w' hb).mono fun _ _ h => EncV.bad h0 h
      have t0 := hT.cell (o := 0) rfl
      have t1 := hT.cell (o := 1) rfl
      have t2 := hT.cell (o := 2) rfl
      have t3 := hT.cell (o := 3) rfl
      have t4 := hT.cell (o := 4) rfl
      have t5 := hT.cell (o := 5) rfl
      replace hW4 := Lib.hid hW4
      replace kT := Lib.hid kT
      replace kE := Lib.hid kE
      replace kD := Lib.hid kD
      replace kC := Lib.hid kC
      replace kR := Lib.hid kR
      replace hP := Lib.hid hP
      replace hb3 := Lib.hid hb3
      replace hb34 := Lib.hid hb34
      replace hb4 := Lib.hid hb4
      replace hrm := Lib.hid hrm
      replace hct := Lib.hid hct
      clear hR hR4 hrr hrr4 hrl hf hll hT kEok kEbad
      go_upto_region 4 with fail
      rw [← hW4.out]
      go_wp2_with fail
      refine (kE.out W4 (Below.refl _ _)).mono ?_
      rintro e w5 ⟨ea, en, ec, rfl, hb45, henok⟩
      have hbw5 := hb4.out.trans (hb45.mono hb4.out.size)
      have Kt := kT.out w5 hb45
      clear t0 t1 t2 t3 t4 t5
      replace henok := Lib.hid henok
      replace hbw5 := Lib.hid hbw5
      replace hb45 := Lib.hid hb45
      by_cases hP0 : P = 0
      · have dP : ((P : Int) != 0) = false := by simp [hP0]
        obtain ⟨hen, hRe⟩ := henok.out hP0
        have hz := hP.out.symm.trans hP0
        obtain ⟨hlr, _, hfo⟩ := rowP_ok hz
        have hl8 : r.length ≤ 8 := by have := hG.ok.len; omega
        have hbd := enc_bd hfo hl8 ver r.length
        rw [List.take_length] at hbd
        have h256 := encP_256 ver r hl8
        have hl3 := enc_len3 ver r
        rw [← hen] at hbd hl3
        obtain ⟨g, rfl, _⟩ := hRe.nonnil (by omega)
        have hen0 : ((en : Int) == 0) = false := by rw [beq_eq_false_iff_ne]; omega
        obtain ⟨q0, hq0⟩ : ∃ q, q = encP ver r := ⟨_, rfl⟩
        rw [← hq0] at hRe h256 hen
        have hstart : ∃ q : List Nat, q.length = en ∧ (∀ x ∈ q, x < 256) ∧ RowB W4 5 1 en (bcells q) (some ⟨g, 0, none⟩) ec w5 := ⟨q0, hen.symm, h256, hRe⟩
        have hcp := hRe.cap
        replace hP0 := Lib.hid hP0
        replace hen := Lib.hid hen
        replace hz := Lib.hid hz
        replace hq0 := Lib.hid hq0
        replace hstart := Lib.hid hstart
        clear hRe hlr h256
        have he1 : ¬ (en : Int) = 0 := by omega
        have he2 : decide ((en : Int) = 0) = false := decide_eq_false he1
        go_wp2_with fail
        go_loopw [52] (fun i wr => ∃ k : Nat, k ≤ tl ∧ i = .int .i64 k ∧ ∃ q : List Nat, q.length = en ∧ (∀ x ∈ q, x < 256) ∧ RowB W4 5 1 en (bcells q) (some ⟨g, 0, none⟩) ec wr) (fun i _ => tl - (RowKit.intOf i).toNat)
        case atStart => exact ⟨0, by omega, rfl, hstart.out⟩
        case round =>
          clear hstart
          obtain ⟨k, hk, rfl, q, hql, hqb, hRq⟩ := hrel
          by_cases hkt : k < tl
          · have hlI : (k : Int) < tl := by omega
            have hbq := hb4.out.trans (hRq.b.mono hb4.out.size)
            obtain ⟨bl, ol, cl, ea, fa⟩ := (hta.kept hbq).cells (by have := htl.out; omega)
            simp only [Value.slice.injEq, true_and] at ea
            obtain ⟨rfl, hcap⟩ := ea
            replace hcap := Lib.hid hcap
            have hxk : k < at'.length := by have := htl.out; omega
            have c0 : wr.cell? ⟨bl, ol + k, none⟩ = some (.int .u16 ((at'.getD k 0 : Nat) : Int)) := fa k _ (by unfold hcells; rw [List.getElem?_map, List.getElem?_eq_getElem hxk, List.getD, List.getElem?_eq_getElem hxk]; rfl)
            have hx := hat _ (List.mem_of_getElem? (get_lt 0 hxk))
            generalize at'.getD k 0 = x at *
            have hjn : x / 256 % en < en := Nat.mod_lt _ (by omega)
            have hcell : wr.cell? ⟨g, x / 256 % en, none⟩ = some (.int .u8 ((q.getD (x / 256 % en) 0 : Nat) : Int)) := by
              rw [hRq.o.cellAt (x / 256 % en) (by omega)]
              exact bcells_get q _ (by omega)
            have hfz : wr.frozen? ⟨g, x / 256 % en, none⟩ = false := hRq.o.frozenAt (x / 256 % en)
            have hi0 : ((x : Int) / 256 % (en : Int)) = ((x / 256 % en : Nat) : Int) := by simp
            have hi1 : (0 : Int) ≤ (x : Int) / 256 % (en : Int) := by rw [hi0]; omega
            have hi2 : (x : Int) / 256 % (en : Int) < (en : Int) := by rw [hi0]; omega
            have hfin : ∀ Y : Int, Y = ((x % 256 : Nat) : Int) → ∃ q : List Nat, q.length = en ∧ (∀ x ∈ q, x < 256) ∧ RowB W4 5 1 en (bcells q) (some ⟨g, 0, none⟩) ec (wr.setCell ⟨g, x / 256 % en, none⟩ (.int .u8 Y)) := by
              intro Y hY
              refine ⟨q.set (x / 256 % en) (x % 256), by rw [List.length_set]; exact hql, fun y hy => ?_, ?_⟩
              · rcases List.mem_or_eq_of_mem_set hy with h | h
                · exact hqb y h
                · rw [h]; omega
              · have h := hRq.store (x / 256 % en) hjn (.int .u8 ((x % 256 : Nat) : Int))
                rw [hY]
                have e : bcells (q.set (x / 256 % en) (x % 256)) = (bcells q).set (x / 256 % en) (.int .u8 ((x % 256 : Nat) : Int)) := by unfold bcells; rw [List.map_set]
                rw [e]
                exact h
            have hxm : ((x : Int) % 256) = ((x % 256 : Nat) : Int) := by omega
            clear fa hRq hbq
            replace hfin := Lib.hid hfin
            replace hxm := Lib.hid hxm
            replace hi0 := Lib.hid hi0
            replace hqb := Lib.hid hqb
            replace hql := Lib.hid hql
            go_wp2_with fail
            go_roundw
            case rel => exact ⟨k + 1, by omega, by go_num, hfin.out _ hxm.out⟩
            case measure => simp [RowKit.intOf]; omega
          · have hkI : ¬ (k : Int) < tl := by omega
            have hbq := hRq.b
            have hcq := hRq.cap
            have hrd := hRq.rd
            obtain ⟨hxt, hx8⟩ := decP_ty hG q hqb
            have hD0 := kD.out q hqb (by omega) (some ⟨g, 0, none⟩) ec (by omega) wr hbq (by rw [hql]; exact hrd)
            have kR0 := fun (s1 : Option Addr) (c1 : Nat) w' (hb : Below wr.heap.size wr w') h1 => kR.out q hqb (by omega) (some ⟨g, 0, none⟩) ec (by omega) s1 c1 w' (hbq.trans (hb.mono hbq.size)) h1 (by rw [hql]; exact hrd.kept hb)
            have kC0 := fun w' (hb : Below wr.heap.size wr w') => kC.out w' (hbq.trans (hb.mono hbq.size))
            rw [hql] at hD0 kR0
            obtain ⟨x, hxe⟩ : ∃ x, x = decP ver cs q := ⟨_, rfl⟩
            rw [← hxe] at hxt hx8 hD0 kR0
            obtain ⟨L, hL⟩ : ∃ L, L = x.1.length := ⟨_, rfl⟩
            obtain ⟨E, hEe⟩ : ∃ E, E = x.2 := ⟨_, rfl⟩
            have kS : ∀ (qa : Option Addr) (qc : Nat) (va : Option Addr) (vc : Nat) w', Rd w' (.slice qa L qc) L (vCells x.1) → Rd w' (.slice va L vc) L (rvCells x.1) → Calls Tryz.prog 32 #[.slice qa L qc, .slice va L vc] w' (RPost w' (.bool true)) := by
              intro qa qc va vc w' h1 h2
              rw [hL] at h1 h2 ⊢
              exact same_any x.1 hxt (by omega) qa qc va vc w' h1 h2
            have kD2 : Calls Tryz.prog 31 #[.agg #[.string tagS, .int .i64 (ver : Int), .slice sa n sc, .slice none 0 0, .int .u64 0, .int .u64 0], .slice (some ⟨g, 0, none⟩) en ec] wr (fun e w'' => ∃ a c, e = .returned (.tuple #[.slice a L c, .int .i64 (E : Nat)]) ∧ RowB wr 50 5 L (vCells x.1) a c w'') := by
              rw [hL, hEe]
              exact hD0
            have kR2 : ∀ (s1 : Option Addr) (c1 : Nat) w', Below wr.heap.size wr w' → Rd w' (.slice s1 n c1) n (rcCells cs) → Calls Tryz.prog 33 #[.int .i64 (ver : Int), .slice s1 n c1, .slice (some ⟨g, 0, none⟩) en ec] w' (fun e w'' => ∃ a c, e = .returned (.tuple #[.slice a L c, .int .i64 (E : Nat)]) ∧ RowB w' 54 5 L (rvCells x.1) a c w'') := by
              intro s1 c1 w' hb h1
              rw [hL, hEe]
              exact kR0 s1 c1 w' hb h1
            have hT3 := kT.out wr hbq
            have kT3 := fun w' (hb : Below wr.heap.size wr w') => hT3.only (Only.of_below hb) (Nat.not_le.2 hT3.lt)
            have t0 := hT3.cell (o := 0) rfl
            have t1 := hT3.cell (o := 1) rfl
            have t2 := hT3.cell (o := 2) rfl
            have t3 := hT3.cell (o := 3) rfl
            have t4 := hT3.cell (o := 4) rfl
            have t5 := hT3.cell (o := 5) rfl
            have hbw := hb4.out.trans (hbq.mono hb4.out.size)
            replace hbw := Lib.hid hbw
            replace kT3 := Lib.hid kT3
            replace kD2 := Lib.hid kD2
            replace kR2 := Lib.hid kR2
            replace kC := Lib.hid kC0
            replace kS := Lib.hid kS
            replace hL := Lib.hid hL
            replace hEe := Lib.hid hEe
            replace hxe := Lib.hid hxe
            replace hql := Lib.hid hql
            clear hT3 hD0 kR0 kC0 hRq hbq hcq hrd hxt hx8 kT hb4
            go_wp2_with fail
            refine (kD2.out).mono ?_
            rintro e w5 ⟨qa, qc, rfl, hR5⟩
            have hb5 := hR5.b
            have hq5 := hR5.rd
            have Kt := kT3.out w5 hb5
            clear t0 t1 t2 t3 t4 t5
            have g1 : ∀ wx, Below w5.heap.size w5 wx → wx.cell? ⟨w3.heap.size, 1, none⟩ = some (.int .i64 (ver : Int)) := fun wx hx => cellk hx (Kt.cell (o := 1) rfl)
            have g2 : ∀ wx, Below w5.heap.size w5 wx → wx.cell? ⟨w3.heap.size, 0, none⟩ = some (.string tagS) ∧ wx.cell? ⟨w3.heap.size, 1, none⟩ = some (.int .i64 (ver : Int)) ∧ wx.cell? ⟨w3.heap.size, 2, none⟩ = some (.slice sa n sc) ∧ wx.cell? ⟨w3.heap.size, 3, none⟩ = some (.slice none 0 0) ∧ wx.cell? ⟨w3.heap.size, 4, none⟩ = some (.int .u64 0) ∧ wx.cell? ⟨w3.heap.size, 5, none⟩ = some (.int .u64 0) :=
              fun wx hx => ⟨cellk hx (Kt.cell (o := 0) rfl), cellk hx (Kt.cell (o := 1) rfl), cellk hx (Kt.cell (o := 2) rfl), cellk hx (Kt.cell (o := 3) rfl), cellk hx (Kt.cell (o := 4) rfl), cellk hx (Kt.cell (o := 5) rfl)⟩
            have kq : ∀ wx, Below w5.heap.size w5 wx → Rd wx (.slice qa L qc) L (vCells x.1) := fun wx hx => hq5.kept hx
            replace hb5 := Lib.hid hb5
            replace g1 := Lib.hid g1
            replace g2 := Lib.hid g2
            replace kq := Lib.hid kq
            clear Kt hq5 hR5
            go_upto_region 13 with fail
            have hd0 : Below w5.heap.size w5 w5.drew := below_drew (Below.refl _ _)
            have b45 : ∀ wx, Below w5.heap.size w5 wx → Below wr.heap.size wr wx := fun wx hx => hb5.out.trans (hx.mono hb5.out.size)
            refine wp_region_call2 3 5 [] [6] (C0 := fun w' => Below w5.heap.size w5 w') (C1 := fun v w' => (∃ s1 c1, v = .slice s1 n c1) ∧ Rd w' v n (rcCells cs) ∧ Below w5.heap.size w5 w') (C2 := fun v u w' => (∃ s1 c1, v = .slice s1 n c1) ∧ (∃ s2 c2, u = .tuple #[.slice s2 L c2, .int .i64 (E : Nat)] ∧ Rd w' (.slice s2 L c2) L (rvCells x.1)) ∧ Below w5.heap.size w5 w') (by kernel_rfl) (by kernel_rfl) (by decide) (by decide) (by kernel_rfl) (by kernel_rfl) (by kernel_rfl) hd0 (fun wx hx => ?_) (fun v wx hx => ?_) (fun v u hx => ?_)
            · obtain ⟨e, w', s1, c1, _, h⟩ := Calls.ex (kC.out wx (b45 wx hx))
              exact ⟨_, w', ⟨s1, c1, rfl⟩, Rd.of_own h.o, hx.trans (h.b.mono hx.size)⟩
            · obtain ⟨⟨s1, c1, rfl⟩, hr1, hbx⟩ := hx
              obtain ⟨e, w', s2, c2, _, h⟩ := Calls.ex (kR2.out s1 c1 wx (b45 wx hbx) hr1)
              exact ⟨_, w', ⟨s1, c1, rfl⟩, ⟨s2, c2, rfl, Rd.of_own h.o⟩, hbx.trans (h.b.mono hbx.size)⟩
            · obtain ⟨w', ⟨s1, p1, rfl⟩, ⟨s2, p2, rfl, _⟩, _⟩ := hx
              generalize hC : cls2 _ _ _ = CC
              have h0 : ∀ wx, clsAt CC [.slice s1 n p1, .tuple #[.slice s2 L p2, .int .i64 (E : Nat)]] 0 wx → Below w5.heap.size w5 wx := by
                intro wx hx
                rw [← hC] at hx
                rcases cls2_at0 hx with h | h | h
                · exact h
                · exact h.2.2
                · exact h.2.2
              have c0 : ∀ wx, CC [] wx → Calls Tryz.prog 18 #[.agg #[.string tagS, .int .i64 (ver : Int), .slice sa n sc, .slice none 0 0, .int .u64 0, .int .u64 0]] wx (fun e w'' => ∃ v, e = .returned v ∧ CC [v] w'') := by
                intro wx hx
                rw [← hC] at hx ⊢
                replace hx : Below w5.heap.size w5 wx := hx
                refine (kC.out wx (b45 wx hx)).mono ?_
                rintro e w'' ⟨s1, p1, rfl, h⟩
                exact ⟨_, rfl, ⟨s1, p1, rfl⟩, Rd.of_own h.o, hx.trans (h.b.mono hx.size)⟩
              have c1 : ∀ wx, CC [.slice s1 n p1] wx → Calls Tryz.prog 33 #[.int .i64 (ver : Int), .slice s1 n p1, .slice (some ⟨g, 0, none⟩) en ec] wx (fun e w'' => ∃ v, e = .returned v ∧ CC [.slice s1 n p1, v] w'') := by
                intro wx hx
                rw [← hC] at hx ⊢
                obtain ⟨_, hr1, hbx⟩ : (∃ s c, Value.slice s1 n p1 = .slice s n c) ∧ Rd wx (.slice s1 n p1) n (rcCells cs) ∧ Below w5.heap.size w5 wx := hx
                refine (kR2.out s1 p1 wx (b45 wx hbx) hr1).mono ?_
                rintro e w'' ⟨s2, p2, rfl, h⟩
                exact ⟨_, rfl, ⟨s1, p1, rfl⟩, ⟨s2, p2, rfl, Rd.of_own h.o⟩, hbx.trans (h.b.mono hbx.size)⟩
              have hend : ∀ wx, CC [.slice s1 n p1, .tuple #[.slice s2 L p2, .int .i64 (E : Nat)]] wx → Rd wx (.slice s2 L p2) L (rvCells x.1) ∧ Below w5.heap.size w5 wx := by
                intro wx hx
                rw [← hC] at hx
                obtain ⟨_, ⟨s3, p3, he, h1⟩, h2⟩ := hx
                cases he
                exact ⟨h1, h2⟩
              have f1 := fun wx hx => g1.out wx (h0 wx hx)
              have f2 := fun wx hx => g2.out wx (h0 wx hx)
              replace hC := Lib.hid hC
              replace h0 := Lib.hid h0
              replace c0 := Lib.hid c0
              replace c1 := Lib.hid c1
              replace hend := Lib.hid hend
              replace f1 := Lib.hid f1
              replace f2 := Lib.hid f2
              replace b45 := Lib.hid b45
              refine lex_chunk 0 3 0 _ _ (fun _ _ => Nat.zero_le _) (by kernel_rfl) (fun j hj => by unfold rk2; rw [if_neg (by omega), if_neg (by omega)]) (by decide) ?_
              simp only [List.take_succ_cons, List.take_zero, List.drop_succ_cons, List.drop_zero]
              go_big_quiet_want; go_big_quiet_op; first | go_big_quiet_on | (refine ⟨_, fun _ _ => rfl, ?_⟩; go_big_quiet_on)
              go_big_quiet_want; go_big_quiet_op
              refine ⟨.int .i64 (ver : Int), fun wx hx => by simp [go_sem, f1.out wx hx], ?_⟩
              go_big_quiet_on
              go_big_quiet_want; go_big_quiet_op
              refine ⟨.agg #[.string tagS, .int .i64 (ver : Int), .slice sa n sc, .slice none 0 0, .int .u64 0, .int .u64 0], fun wx hx => by obtain ⟨u0, u1, u2, u3, u4, u5⟩ := f2.out wx hx; simp [go_sem, u0, u1, u2, u3, u4, u5], ?_⟩
              go_big_quiet_on
              refine wpQuiet_nil ?_
              refine lex_call (r := 0) (v := .slice s1 n p1) rfl (by go_simp; exact rfl) rfl (by kernel_rfl) (fun wx hx => ?_) ?_
              · refine callUpon_mk (f := 18) (args := #[.agg #[.string tagS, .int .i64 (ver : Int), .slice sa n sc, .slice none 0 0, .int .u64 0, .int .u64 0]]) (by simp [go_sem]) ?_
                exact c0.out wx hx
              refine lex_chunk 0 1 _ _ _ (fun _ _ => Nat.zero_le _) (by kernel_rfl) (fun j hj => by unfold rk2; rw [if_neg (by omega), if_neg (by omega)]) (by decide) ?_
              simp only [List.take_succ_cons, List.take_zero, List.drop_succ_cons, List.drop_zero]
              go_big_quiet_want; go_big_quiet_op; first | go_big_quiet_on | (refine ⟨_, fun _ _ => rfl, ?_⟩; go_big_quiet_on)
              refine wpQuiet_nil ?_
              refine lex_call (r := 1) (v := .tuple #[.slice s2 L p2, .int .i64 (E : Nat)]) rfl (by go_simp; exact rfl) rfl (by kernel_rfl) (fun wx hx => ?_) ?_
              · refine callUpon_mk (f := 33) (args := #[.int .i64 (ver : Int), .slice s1 n p1, .slice (some ⟨g, 0, none⟩) en ec]) (by simp [go_sem]) ?_
                exact c1.out wx hx
              refine lex_chunk 0 5 _ _ _ (fun _ _ => Nat.zero_le _) (by kernel_rfl) (fun j hj => by unfold rk2; rw [if_neg (by omega), if_neg (by omega)]) (by decide) ?_
              simp only [List.take_succ_cons, List.take_zero, List.drop_succ_cons, List.drop_zero]
              iterate 5 (go_big_quiet_want; go_big_quiet_op; first | go_big_quiet_on | (refine ⟨_, fun _ _ => rfl, ?_⟩; go_big_quiet_on))
              refine wpQuiet_nil ?_
              intro w6 hz
              obtain ⟨hv6, hb56⟩ := hend.out _ (by rw [← hC.out]; exact hz)
              have hb6 := b45.out w6 hb56
              have hq6 := kq.out w6 hb56
              have hb7 := hb6
              have q3 := kS.out qa qc s2 p2 w6 hq6 hv6
              replace q3 := Lib.hid q3
              replace hb7 := Lib.hid hb7
              replace hv6 := Lib.hid hv6
              replace hq6 := Lib.hid hq6
              replace hb56 := Lib.hid hb56
              clear hz f1 f2 c0 c1 h0 hC hend g1 g2 hb6
              have dE : ((E : Int) == (E : Int)) = true := by simp
              go_wp2_with fail
              refine q3.out.mono ?_
              rintro e w8 ⟨rfl, hb78⟩
              have hb8 := hb7.out.trans (hb78.mono hb7.out.size)
              have hff := hbw.out.trans (hb8.mono hbw.out.size)
              replace hff := Lib.hid hff
              clear hb78 hb8 q3
              go_wp2_with fail
              go_ret
              exact ⟨rfl, hff.out⟩
      · have dP : ((P : Int) != 0) = true := by simp [hP0]
        replace hP0 := Lib.hid hP0
        go_wp2_with fail
        go_ret
        exact ⟨rfl, hbw5.out⟩
end Go.Proofs.YtpjbcadelmjmfaaGreatDoor
