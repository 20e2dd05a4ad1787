/- The walk of RowEncodes. -/
import Derived.Test.YtpjbcadelmjmfaaGreatDoorR38
import Derived.Test.YtpjbcadelmjmfaaGreatDoorDec
import Derived.Test.YtpjbcadelmjmfaaGreatDoorR37
import Derived.Test.YtpjbcadelmjmfaaGreatDoorR36
import Derived.Test.YtpjbcadelmjmfaaGreatDoorR22
import Derived.Test.YtpjbcadelmjmfaaGreatDoorR17
import Derived.Test.YtpjbcadelmjmfaaGreatDoorR16
import Derived.Test.YtpjbcadelmjmfaaGreatDoorR4
import Derived.Test.YtpjbcadelmjmfaaGreatDoorQRI
namespace Go.Proofs.YtpjbcadelmjmfaaGreatDoor
open Go.RowKit Go.Lib Go.BigFrame
set_option linter.unusedVariables false

theorem great_no {l : List RV} (h : greatP l = false) : l.length ≤ 20 := by
  unfold greatP at h
  simp only [Bool.or_eq_false_iff, decide_eq_false_iff_not] at h
  omega
theorem TG.tys {ver : Nat} {cs : List CV} (h : TG ver cs) : ∀ c ∈ cs, c.ty < 256 ∧ c.df.ty < 256 := by
  intro c hc
  obtain ⟨k, hk, rfl⟩ := List.getElem_of_mem hc
  have h1 := (h.ok.fit k hk).1
  have e : cs.getD k CV0 = cs[k] := by rw [List.getD, List.getElem?_eq_getElem hk]; rfl
  rw [e] at h1
  unfold fitsP at h1
  split at h1
  · cases h1
  · rename_i h2
    obtain ⟨⟨a, b⟩, _⟩ := form_parts h1
    have h3 : cs[k].df.ty = cs[k].ty := by
      by_cases e : cs[k].df.ty = cs[k].ty
      · exact e
      · exact absurd (.inl e) h2
    omega
def EncU (w : World) (ver : Nat) (r : List RV) (P : Nat) (e : Ending) (w' : World) : Prop :=
  ∃ ea en ec, e = .returned (.tuple #[.slice ea en ec, .int .i64 (P : Int)]) ∧ Below w.heap.size w w' ∧ (P ≠ 0 → en = 0) ∧ (P = 0 → en = (encP ver r).length ∧ Rd w' (.slice ea en ec) en (bcells (encP ver r)))
theorem EncU.ok {w : World} {ver : Nat} {r : List RV} {e : Ending} {w' : World} (h : EncPost w ver r e w') : EncU w ver r 0 e w' := by
  obtain ⟨sa, sc, he, hR⟩ := h
  exact ⟨sa, _, sc, he, hR.b, fun h => absurd rfl h, fun _ => ⟨rfl, Rd.of_own hR.o⟩⟩
theorem EncU.bad {w : World} {ver P : Nat} {r : List RV} {e : Ending} {w' : World} (h0 : P ≠ 0) (h : RPost w (.tuple #[.slice none 0 0, .int .i64 (P : Int)]) e w') : EncU w ver r P e w' :=
  ⟨none, 0, 0, h.1, h.2, fun _ => rfl, fun h => absurd h h0⟩
set_option maxHeartbeats 8000000 in
set_option maxRecDepth 100000 in
theorem encodes_walk (l : List LC) (hf : ∀ c ∈ l, c.t < 256 ∧ c.d.ty < 256 ∧ c.d.tx.size ≤ 9223372036854775807) (hll : l.length ≤ 9223372036854775807) (a : Option Addr) (cap : Nat)
    (r : List RV) (hrt : ∀ c ∈ r, c.ty < 256 ∧ c.tx.size ≤ 9223372036854775807) (hrl : r.length ≤ 9223372036854775807) (ra : Option Addr) (rc : Nat) (w : World) (hE : Env w)
    (hr : Rd w (.slice a l.length cap) l.length (lCells l)) (hrr : Rd w (.slice ra r.length rc) r.length (vCells r)) :
    Calls Tryz.prog 3 #[.slice a l.length cap, .slice ra r.length rc] w (fun e w' => e = .returned (.bool true) ∧ Below w.heap.size w w') := by
  have aw := fun w' (hb : Below w.heap.size w w') => awake_any w' (hE.below hb)
  have gr := fun w' (hb : Below w.heap.size w w') => great_any r ra rc w' (hrr.kept hb) hrl
  have tb := fun w' (hb : Below w.heap.size w w') => table_any l hf hll a cap w' (hr.kept hb)
  have hgn := @great_no r
  obtain ⟨n, hn⟩ : ∃ n, n = min l.length 8 := ⟨_, rfl⟩
  have hg := fun h0 => tab_good l n h0 (by omega) (fun c hc => (hf c hc).2.2)
  have hv1 := verAt_bd l n
  have hct := colsTo_len l n
  unfold TablePost at tb
  rw [← hn] at tb
  generalize colsTo l n = cs at *
  generalize verAt l n = ver at *
  obtain ⟨m, hm⟩ : ∃ m, m = l.length := ⟨_, rfl⟩
  obtain ⟨rl, hrl2⟩ : ∃ m, m = r.length := ⟨_, rfl⟩
  rw [← hm] at tb hn ⊢
  rw [← hrl2] at gr hgn ⊢
  generalize greatP r = g at *
  replace aw := Lib.hid aw
  replace gr := Lib.hid gr
  replace tb := Lib.hid tb
  replace hm := Lib.hid hm
  replace hrl2 := Lib.hid hrl2
  replace hg := Lib.hid hg
  replace hgn := Lib.hid hgn
  replace hv1 := Lib.hid hv1
  clear hr
  go_enter Tryz.func3, Tryz.ntmps3
  go_upto_region 1 with fail
  go_wp2_with fail
  refine (aw.out w (Below.refl _ _)).mono ?_
  rintro e w1 ⟨rfl, hb1⟩
  replace hb1 := Lib.hid hb1
  go_wp2_with fail
  refine (gr.out w1 hb1.out).mono ?_
  rintro e w2 ⟨rfl, hb12⟩
  have hb2 := hb1.out.trans (hb12.mono hb1.out.size)
  clear hb12 gr
  cases g with
  | true =>
    replace hb2 := Lib.hid hb2
    go_wp2_with fail
    refine (aw.out w2 hb2.out).mono ?_
    rintro e w3 ⟨rfl, hb23⟩
    have hff := hb2.out.trans (hb23.mono hb2.out.size)
    replace hff := Lib.hid hff
    clear hb23
    go_wp2_with fail
    go_ret
    exact ⟨rfl, hff.out⟩
  | false =>
    by_cases hm0 : m = 0
    · have d0 : ((m : Int) == 0) = true := by rw [beq_iff_eq]; omega
      replace hb2 := Lib.hid hb2
      replace hm0 := Lib.hid hm0
      go_wp2_with fail
      refine (aw.out w2 hb2.out).mono ?_
      rintro e w3 ⟨rfl, hb23⟩
      have hff := hb2.out.trans (hb23.mono hb2.out.size)
      replace hff := Lib.hid hff
      clear hb23
      go_wp2_with fail
      go_ret
      exact ⟨rfl, hff.out⟩
    · have d0 : ((m : Int) == 0) = false := by rw [beq_eq_false_iff_ne]; omega
      have hn0 : 0 < n := by omega
      have hn8 : n ≤ 8 := by omega
      have hG := hg.out hn0
      have hr20 := hgn.out rfl
      replace hb2 := Lib.hid hb2
      replace hm0 := Lib.hid hm0
      replace hn := Lib.hid hn
      clear hg hgn
      go_wp2_with fail
      refine (tb.out w2 hb2.out).mono ?_
      rintro e w3 ⟨sa, sc, rfl, hR⟩
      have hb3 := hb2.out.trans (hR.b.mono hb2.out.size)
      clear tb aw hb1
      obtain ⟨W4, hW4⟩ : ∃ W4, W4 = w3.alloc (.cells #[.string tagS, .int .i64 (ver : Int), .slice sa n sc, .slice none 0 0, .int .u64 0, .int .u64 0] 32) := ⟨_, rfl⟩
      have hT : Has W4 w3.heap.size [.string tagS, .int .i64 (ver : Int), .slice sa n sc, .slice none 0 0, .int .u64 0, .int .u64 0] 32 := by rw [hW4]; exact Has.new _ _ _
      have hb34 : Below w3.heap.size w3 W4 := by rw [hW4]; exact (Below.refl _ _).alloc (Nat.le_refl _) _
      have hb4 := hb3.trans (hb34.mono hb3.size)
      have hR4 := (Rd.of_own hR.o).kept hb34
      rw [← hct] at hR4
      have kT := fun w' (hb : Below W4.heap.size W4 w') => hT.only (Only.of_below hb) (Nat.not_le.2 hT.lt)
      have hrr4 := hrr.kept hb4
      have hls : ∀ v ∈ r, v.tx.size ≤ 9223372036854775807 := fun v hv => (hrt v hv).2
      have hrm := hrl2.out
      rw [hrl2.out] at hr20
      have kV := fun w' (hb : Below W4.heap.size W4 w') => values_any r (fun v hv => (hrt v hv).1) ra rc w' (hrr4.kept hb) (by omega)
      have kC := fun w' (hb : Below W4.heap.size W4 w') => columns_any tagS (ver : Int) cs hG.tys (by omega) sa sc w' (hR4.kept hb)
      have kRV := fun w' (hb : Below W4.heap.size W4 w') => rowvalid_t One.tag hG hls (by omega) (hR4.kept hb) (hrr4.kept hb) (hE.below (hb4.trans (hb.mono hb4.size)))
      have kEok := fun hz w' (hb : Below W4.heap.size W4 w') => rowenc_ok One.tag hG hls (by omega) (hR4.kept hb) (hrr4.kept hb) (hE.below (hb4.trans (hb.mono hb4.size))) hz
      have kEbad := fun hz w' (hb : Below W4.heap.size W4 w') => rowenc_bad One.tag hG hls (by omega) (hR4.kept hb) (hrr4.kept hb) (hE.below (hb4.trans (hb.mono hb4.size))) hz
      rw [← hrl2.out] at kV kRV kEok kEbad
      rw [hct] at kC kRV kEok kEbad
      obtain ⟨P, hP⟩ : ∃ P, P = rowP cs r := ⟨_, rfl⟩
      rw [← hP] at kRV kEok kEbad
      have t0 := hT.cell (o := 0) rfl
      have t1 := hT.cell (o := 1) rfl
      have t2 := hT.cell (o := 2) rfl
      have t3 := hT.cell (o := 3) rfl
      have t4 := hT.cell (o := 4) rfl
      have t5 := hT.cell (o := 5) rfl
      replace hW4 := Lib.hid hW4
      replace kT := Lib.hid kT
      replace kV := Lib.hid kV
      replace kC := Lib.hid kC
      replace kRV := Lib.hid kRV
      replace kEok := Lib.hid kEok
      replace kEbad := Lib.hid kEbad
      have kE : ∀ w', Below W4.heap.size W4 w' → Calls Tryz.prog 16 #[.agg #[.string tagS, .int .i64 (ver : Int), .slice sa n sc, .slice none 0 0, .int .u64 0, .int .u64 0], .slice ra rl rc] w' (EncU w' ver r P) := by
        intro w' hb
        by_cases h0 : P = 0
        · rw [h0]
          exact (kEok.out h0 w' hb).mono fun _ _ h => EncU.ok h
        · exact (kEbad.out h0 w' hb).mono fun _ _ h => EncU.bad h0 h
      have kR : ∀ (sa1 : Option Addr) (sc1 : Nat) (sa2 : Option Addr) (sc2 : Nat) (w' : World), Rd w' (.slice sa1 n sc1) n (rcCells cs) → Rd w' (.slice sa2 rl sc2) rl (rvCells r) → Calls Tryz.prog 17 #[.slice sa1 n sc1, .slice sa2 rl sc2] w' (RPost w' (.int .i64 (P : Nat))) := by
        intro sa1 sc1 sa2 sc2 w' h1 h2
        rw [hP]
        have h := rvalid_any cs (by omega) sa1 sc1 r hls (by omega) sa2 sc2 w'
        rw [hct, ← hrl2.out] at h
        exact h h1 h2
      replace kE := Lib.hid kE
      replace kR := Lib.hid kR
      clear kEok kEbad
      replace hP := Lib.hid hP
      replace hb3 := Lib.hid hb3
      replace hb34 := Lib.hid hb34
      replace hb4 := Lib.hid hb4
      replace hrm := Lib.hid hrm
      clear hR hR4 hrr hrr4 hrl hf hll hT
      go_upto_region 4 with fail
      rw [← hW4.out]
      go_wp2_with fail
      refine (kE.out W4 (Below.refl _ _)).mono ?_
      rintro e w5 ⟨ea, en, ec, rfl, hb45, hen0, henok⟩
      have Kt := kT.out w5 hb45
      clear t0 t1 t2 t3 t4 t5
      have t0 := Kt.cell (o := 0) rfl
      have t1 := Kt.cell (o := 1) rfl
      have t2 := Kt.cell (o := 2) rfl
      have t3 := Kt.cell (o := 3) rfl
      have t4 := Kt.cell (o := 4) rfl
      have t5 := Kt.cell (o := 5) rfl
      have q := kC.out w5 hb45
      replace q := Lib.hid q
      replace hb45 := Lib.hid hb45
      replace hen0 := Lib.hid hen0
      replace henok := Lib.hid henok
      clear Kt
      go_wp2_with fail
      refine q.out.mono ?_
      rintro e w6 ⟨sa1, sc1, rfl, hR6⟩
      have hb6 := hb45.out.trans (hR6.b.mono hb45.out.size)
      have hk6 := hR6.b
      have q2 := kV.out w6 hb6
      replace q2 := Lib.hid q2
      replace hb6 := Lib.hid hb6
      replace hk6 := Lib.hid hk6
      replace hR6 := Lib.hid hR6
      clear q t0 t1 t2 t3 t4 t5
      go_wp2_with fail
      refine q2.out.mono ?_
      rintro e w7 ⟨sa2, sc2, rfl, hR7⟩
      have hb7 := hb6.out.trans (hR7.b.mono hb6.out.size)
      have hk7 := hk6.out.trans (hR7.b.mono hk6.out.size)
      have h1 := (Rd.of_own hR6.out.o).kept hR7.b
      have h2 := Rd.of_own hR7.o
      have q3 := kR.out sa1 sc1 sa2 sc2 w7 h1 h2
      replace q3 := Lib.hid q3
      replace hb7 := Lib.hid hb7
      replace hk7 := Lib.hid hk7
      clear q2 h1 h2 hR6 hR7
      go_wp2_with fail
      refine q3.out.mono ?_
      rintro e w8 ⟨rfl, hb78⟩
      have hb8 := hb7.out.trans (hb78.mono hb7.out.size)
      have hk8 := hk7.out.trans (hb78.mono hk7.out.size)
      have Kt := kT.out w8 hb8
      have t0 := Kt.cell (o := 0) rfl
      have t1 := Kt.cell (o := 1) rfl
      have t2 := Kt.cell (o := 2) rfl
      have t3 := Kt.cell (o := 3) rfl
      have t4 := Kt.cell (o := 4) rfl
      have t5 := Kt.cell (o := 5) rfl
      have q := kRV.out w8 hb8
      replace q := Lib.hid q
      replace hb8 := Lib.hid hb8
      replace hk8 := Lib.hid hk8
      clear Kt q3 hb78
      go_wp2_with fail
      refine q.out.mono ?_
      rintro e w9 ⟨rfl, hb89⟩
      have hb9 := hb8.out.trans (hb89.mono hb8.out.size)
      have hk9 := hk8.out.trans (hb89.mono hk8.out.size)
      replace hk9 := Lib.hid hk9
      have hff := hb4.out.trans (hb9.mono hb4.out.size)
      replace hff := Lib.hid hff
      replace hb89 := Lib.hid hb89
      replace hb9 := Lib.hid hb9
      clear q t0 t1 t2 t3 t4 t5
      have dPP : ((P : Int) != (P : Int)) = false := by simp
      by_cases hP0 : P = 0
      · have dP : ((P : Int) != 0) = false := by simp [hP0]
        obtain ⟨hen, hre⟩ := henok.out hP0
        obtain ⟨hlr, _, hfo⟩ := rowP_ok (hP.out.symm.trans hP0)
        have hl8 : r.length ≤ 8 := by have := hG.ok.len; omega
        have hbd := enc_bd hfo hl8 ver r.length
        rw [List.take_length] at hbd
        have hv65 := hG.lt
        have hv1o := hv1.out
        have hre9 := hre.kept hk9.out
        have h256 := encP_256 ver r hl8
        have hl3 := enc_len3 ver r
        obtain ⟨S, hS⟩ : ∃ S, S = strOfNats (encP ver r) := ⟨_, rfl⟩
        obtain ⟨L, hL⟩ : ∃ L, L = (encP ver r).length := ⟨_, rfl⟩
        rw [← hL] at hen
        have kv : Calls Tryz.prog 21 #[.slice ea en ec] w9 (RPost w9 (.tuple #[.int .i64 (ver : Int), .int .i64 0])) := by
          rw [hen, hL] at hre9 ⊢
          have h := version_any (ver % 256) (ver / 256 % 256) (nulls r :: encR r) (by omega) (by omega) (by omega) (by show (encP ver r).length ≤ _; omega) (by show 3 ≤ (encP ver r).length; omega) ea ec w9 hre9
          have hve : ((ver % 256 : Nat) : Int) + 256 * ((ver / 256 % 256 : Nat) : Int) = (ver : Int) := by omega
          rw [hve] at h
          exact h
        have kRE : ∀ (s1 : Option Addr) (c1 : Nat) (w' : World), Rd w' (.slice s1 rl c1) rl (rvCells r) → Calls Tryz.prog 22 #[.int .i64 (ver : Int), .slice s1 rl c1] w' (RowPost w' 5 1 L (bcells (encP ver r))) := by
          intro s1 c1 w' h
          rw [hL]
          rw [hrl2.out] at h ⊢
          exact rencode_any ver hv65 r hfo hl8 s1 c1 w' h
        have cvA : ∀ w', Below w9.heap.size w9 w' → (convert 34 9 (.slice ea en ec)).run Tryz.prog w' = .ok (.string S) w' := by
          intro w' hb
          have h := hre9.kept hb
          rw [hen, hL] at h ⊢
          rw [hS]
          exact conv_rd h h256 (by omega)
        have cvB : ∀ (s2 : Option Addr) (c2 : Nat) (w' : World), Rd w' (.slice s2 L c2) L (bcells (encP ver r)) → (convert 34 9 (.slice s2 L c2)).run Tryz.prog w' = .ok (.string S) w' := by
          intro s2 c2 w' h
          rw [hL] at h ⊢
          rw [hS]
          exact conv_rd h h256 (by omega)
        replace hP0 := Lib.hid hP0
        replace hen := Lib.hid hen
        replace hre := Lib.hid hre
        replace hS := Lib.hid hS
        replace hL := Lib.hid hL
        replace kv := Lib.hid kv
        replace kRE := Lib.hid kRE
        replace cvA := Lib.hid cvA
        replace cvB := Lib.hid cvB
        clear hlr hbd hre9 h256 hl3 hv1o
        go_wp2_with fail
        refine kv.out.mono ?_
        rintro e w10 ⟨rfl, hb910⟩
        have hb10 := hb9.out.trans (hb910.mono hb9.out.size)
        have hf10 := hff.out.trans (hb910.mono hff.out.size)
        have Kt := kT.out w10 hb10
        have t1 := fun wx (hx : Below w10.heap.size w10 wx) => (Kt.only (Only.of_below hx) (Nat.not_le.2 Kt.lt)).cell (o := 1) rfl
        have q1 : ∀ wx, Below w10.heap.size w10 wx → Calls Tryz.prog 19 #[.slice ra rl rc] wx (RowPost wx 54 5 rl (rvCells r)) := fun wx hx => kV.out wx (hb10.trans (hx.mono hb10.size))
        have cvA1 : ∀ wx, Below w10.heap.size w10 wx → (convert 34 9 (.slice ea en ec)).run Tryz.prog wx = .ok (.string S) wx := fun wx hx => cvA.out wx (hb910.trans (hx.mono hb910.size))
        have hfx : ∀ wx, Below w10.heap.size w10 wx → Below w.heap.size w wx := fun wx hx => hf10.trans (hx.mono hf10.size)
        replace hb910 := Lib.hid hb910
        replace hb10 := Lib.hid hb10
        replace hf10 := Lib.hid hf10
        replace t1 := Lib.hid t1
        replace q1 := Lib.hid q1
        replace cvA1 := Lib.hid cvA1
        replace hfx := Lib.hid hfx
        clear Kt cvA kv
        go_upto_region 11 with fail
        have hd0 : Below w10.heap.size w10 w10.drew := below_drew (Below.refl _ _)
        refine wp_region_call2 5 6 [] [7] (C0 := fun w' => Below w10.heap.size w10 w') (C1 := fun v w' => (∃ s1 c1, v = .slice s1 rl c1) ∧ Rd w' v rl (rvCells r) ∧ Below w10.heap.size w10 w') (C2 := fun v u w' => (∃ s1 c1, v = .slice s1 rl c1) ∧ (∃ s2 c2, u = .slice s2 L c2) ∧ Rd w' u L (bcells (encP ver r)) ∧ Below w10.heap.size w10 w') (by kernel_rfl) (by kernel_rfl) (by decide) (by decide) (by kernel_rfl) (by kernel_rfl) (by kernel_rfl) hd0 (fun wx hx => ?_) (fun v wx hx => ?_) (fun v u hx => ?_)
        · obtain ⟨e, w', s1, c1, _, h⟩ := Calls.ex (q1.out wx hx)
          exact ⟨_, w', ⟨s1, c1, rfl⟩, Rd.of_own h.o, hx.trans (h.b.mono hx.size)⟩
        · obtain ⟨⟨s1, c1, rfl⟩, hr1, hbx⟩ := hx
          obtain ⟨e, w', s2, c2, _, h⟩ := Calls.ex (kRE.out s1 c1 wx hr1)
          exact ⟨_, w', ⟨s1, c1, rfl⟩, ⟨s2, c2, rfl⟩, Rd.of_own h.o, hbx.trans (h.b.mono hbx.size)⟩
        · obtain ⟨w', ⟨s1, p1, rfl⟩, ⟨s2, p2, rfl⟩, _, _⟩ := hx
          generalize hC : cls2 _ _ _ = CC
          have h0 : ∀ wx, clsAt CC [.slice s1 rl p1, .slice s2 L p2] 0 wx → Below w10.heap.size w10 wx := by
            intro wx hx
            rw [← hC] at hx
            rcases cls2_at0 hx with h | h | h
            · exact h
            · exact h.2.2
            · exact h.2.2.2
          have h2 : ∀ wx, clsAt CC [.slice s1 rl p1, .slice s2 L p2] 2 wx → Rd wx (.slice s2 L p2) L (bcells (encP ver r)) := by
            intro wx hx
            rw [← hC] at hx
            exact (cls2_at2 hx).2.2.1
          have c0 : ∀ wx, CC [] wx → Calls Tryz.prog 19 #[.slice ra rl rc] wx (fun e w'' => ∃ v, e = .returned v ∧ CC [v] w'') := by
            intro wx hx
            rw [← hC] at hx ⊢
            replace hx : Below w10.heap.size w10 wx := hx
            refine (q1.out wx hx).mono ?_
            rintro e w'' ⟨s1, p1, rfl, h⟩
            exact ⟨_, rfl, ⟨s1, p1, rfl⟩, Rd.of_own h.o, hx.trans (h.b.mono hx.size)⟩
          have c1 : ∀ wx, CC [.slice s1 rl p1] wx → Calls Tryz.prog 22 #[.int .i64 (ver : Int), .slice s1 rl p1] wx (fun e w'' => ∃ v, e = .returned v ∧ CC [.slice s1 rl p1, v] w'') := by
            intro wx hx
            rw [← hC] at hx ⊢
            obtain ⟨_, hr1, hbx⟩ : (∃ s c, Value.slice s1 rl p1 = .slice s rl c) ∧ Rd wx (.slice s1 rl p1) rl (rvCells r) ∧ Below w10.heap.size w10 wx := hx
            refine (kRE.out s1 p1 wx hr1).mono ?_
            rintro e w'' ⟨s2, p2, rfl, h⟩
            exact ⟨_, rfl, ⟨s1, p1, rfl⟩, ⟨s2, p2, rfl⟩, Rd.of_own h.o, hbx.trans (h.b.mono hbx.size)⟩
          have hend : ∀ wx, CC [.slice s1 rl p1, .slice s2 L p2] wx → Below w.heap.size w wx := by
            intro wx hx
            rw [← hC] at hx
            exact hfx.out wx (show _ ∧ _ ∧ _ ∧ Below w10.heap.size w10 wx from hx).2.2.2
          have g1 := fun wx hx => cvA1.out wx (h0 wx hx)
          have g2 := fun wx hx => t1.out wx (h0 wx hx)
          have g3 := fun wx hx => cvB.out s2 p2 wx (h2 wx hx)
          replace hC := Lib.hid hC
          replace h0 := Lib.hid h0
          replace h2 := Lib.hid h2
          replace c0 := Lib.hid c0
          replace c1 := Lib.hid c1
          replace hend := Lib.hid hend
          replace g1 := Lib.hid g1
          replace g2 := Lib.hid g2
          replace g3 := Lib.hid g3
          refine lex_chunk 0 5 0 _ _ (fun _ _ => Nat.zero_le _) (by kernel_rfl) (fun j hj => by unfold rk2; rw [if_neg (by omega), if_neg (by omega)]) (by decide) ?_
          simp only [List.take_succ_cons, List.take_zero, List.drop_succ_cons, List.drop_zero]
          go_big_quiet_want; go_big_quiet_op; first | go_big_quiet_on | (refine ⟨_, fun _ _ => rfl, ?_⟩; go_big_quiet_on)
          go_big_quiet_want; go_big_quiet_op
          refine ⟨.string S, fun wx hx => by rw [g1.out wx hx]; exact ⟨rfl, rfl⟩, ?_⟩
          go_big_quiet_on
          go_big_quiet_want; go_big_quiet_op; first | go_big_quiet_on | (refine ⟨_, fun _ _ => rfl, ?_⟩; go_big_quiet_on)
          go_big_quiet_want; go_big_quiet_op
          refine ⟨.int .i64 (ver : Int), fun wx hx => by simp [go_sem, g2.out wx hx], ?_⟩
          go_big_quiet_on
          go_big_quiet_want; go_big_quiet_op; first | go_big_quiet_on | (refine ⟨_, fun _ _ => rfl, ?_⟩; go_big_quiet_on)
          refine wpQuiet_nil ?_
          refine lex_call (r := 0) (v := .slice s1 rl p1) rfl (by go_simp; exact rfl) rfl (by kernel_rfl) (fun wx hx => ?_) ?_
          · refine callUpon_mk (f := 19) (args := #[.slice ra rl rc]) (by simp [go_sem]) ?_
            exact c0.out wx hx
          refine lex_call (r := 1) (v := .slice s2 L p2) rfl (by go_simp; exact rfl) rfl (by kernel_rfl) (fun wx hx => ?_) ?_
          · refine callUpon_mk (f := 22) (args := #[.int .i64 (ver : Int), .slice s1 rl p1]) (by simp [go_sem]) ?_
            exact c1.out wx hx
          refine lex_chunk 2 1 _ _ _ (fun j hj => by obtain rfl : j = 0 := by omega
                                                     decide) (by kernel_rfl) (fun j hj => by unfold rk2; rw [if_neg (by omega), if_neg (by omega)]) (by decide) ?_
          simp only [List.take_succ_cons, List.take_zero, List.drop_succ_cons, List.drop_zero]
          go_big_quiet_want; go_big_quiet_op
          refine ⟨.string S, fun wx hx => by rw [g3.out wx hx]; exact ⟨rfl, rfl⟩, ?_⟩
          go_big_quiet_on
          refine wpQuiet_nil ?_
          refine lex_chunk 0 12 _ _ _ (fun _ _ => Nat.zero_le _) (by kernel_rfl) (fun j hj => by unfold rk2; rw [if_neg (by omega), if_neg (by omega)]) (by decide) ?_
          simp only [List.take_succ_cons, List.take_zero, List.drop_succ_cons, List.drop_zero]
          go_big_quiet_want; go_big_quiet_op
          refine ⟨.bool true, fun wx hx => by simp [go_sem], ?_⟩
          go_big_quiet_on
          iterate 7 (go_big_quiet_want; go_big_quiet_op; first | go_big_quiet_on | (refine ⟨_, fun _ _ => rfl, ?_⟩; go_big_quiet_on))
          go_big_quiet_want; go_big_quiet_op
          refine ⟨.int .i64 (ver : Int), fun wx hx => by simp [go_sem, g2.out wx hx], ?_⟩
          go_big_quiet_on
          go_big_quiet_want; go_big_quiet_op
          refine ⟨.bool true, fun wx hx => by simp [go_sem], ?_⟩
          go_big_quiet_on
          iterate 2 (go_big_quiet_want; go_big_quiet_op; first | go_big_quiet_on | (refine ⟨_, fun _ _ => rfl, ?_⟩; go_big_quiet_on))
          refine wpQuiet_nil ?_
          intro wz hz
          have kE := hend.out _ (by rw [← hC.out]; exact hz)
          clear hz
          go_wp2_with fail
          go_ret
          exact ⟨rfl, kE⟩
      · have dP : ((P : Int) != 0) = true := by simp [hP0]
        have he := hen0.out hP0
        subst he
        replace hP0 := Lib.hid hP0
        go_wp2_with fail
        go_ret
        exact ⟨rfl, hff.out⟩
end Go.Proofs.YtpjbcadelmjmfaaGreatDoor
