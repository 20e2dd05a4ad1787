/- The walk of RowOlder. -/
import Derived.Test.YtpjbcadelmjmfaaGreatDoorR39
import Derived.Test.YtpjbcadelmjmfaaGreatDoorR41
import Derived.Test.YtpjbcadelmjmfaaGreatDoorR42
import Derived.Test.YtpjbcadelmjmfaaGreatDoorR44
import Derived.Test.YtpjbcadelmjmfaaGreatDoorOld
import Derived.Test.YtpjbcadelmjmfaaGreatDoorDec2
namespace Go.Proofs.YtpjbcadelmjmfaaGreatDoor
open Go.RowKit Go.Lib Go.BigFrame
set_option linter.unusedVariables false

theorem conv_oneA (k : Nat) (hk : k < 8) (b : Nat) (w : World) (hc : w.cell? ⟨b, 0, none⟩ = some (.int .u8 (65 + (k : Int)))) : (convert 34 9 (.slice (some ⟨b, 0, none⟩) 1 1)).run Tryz.prog w = .ok (.string (nmA k)) w := by
  have := run_convert_bytes_back (P := Tryz.prog) w 34 9 5 ⟨b, 0, none⟩ 1 [UInt8.ofNat (65 + k)] Tryz.underlying34 Tryz.underlying5 Tryz.underlying9 (fun j hj => by
    obtain rfl : j = 0 := by simpa using hj
    have e : (⟨b, 0, none⟩ : Addr).add 0 = ⟨b, 0, none⟩ := by unfold Addr.add; split <;> simp_all
    rw [e, hc]
    congr 2
    show _ = ((UInt8.ofNat (65 + k)).toNat : Int)
    rw [UInt8.toNat_ofNat']
    omega)
  exact this
theorem RowB.addr {w wr : World} {T : TypeId} {size n : Nat} {xs : List Value} {sa : Option Addr} {sc : Nat} (h : RowB w T size n xs sa sc wr) (hn : 0 < n) : ∃ g, sa = some ⟨g, 0, none⟩ := by
  rcases h.o.2 with ⟨_, h0⟩ | ⟨g, cap, cur, hv, _⟩
  · omega
  · simp only [Value.slice.injEq, true_and] at hv
    exact ⟨g, hv.1⟩
set_option maxRecDepth 100000 in
/-- q[:n], of values, from the beginning of a block. -/
theorem cut_row (g Q c n : Nat) (hn : n ≤ Q) (hc : Q ≤ c) (wx : World) : (Instr.slice 24 (.slice (some ⟨g, 0, none⟩) Q c) none (some (.int .i64 (n : Int))) none).run Tryz.prog wx = .ok (.slice (some ⟨g, 0, none⟩) n c) wx := by
  rw [run_slice_h (P := Tryz.prog) wx 24 (some ⟨g, 0, none⟩) Q c Tryz.underlying24 .i64 (n : Int) (by omega) (by omega)]
  have : (sizeOf (Tryz.prog.elem 24)).run Tryz.prog wx = .ok 5 wx := by simp [go_sem]
  rw [this]
  simp only [Result.andThen, sliced, Int.toNat_natCast, Nat.sub_zero]
  by_cases h : c = 0
  · rw [if_pos h]
  · rw [if_neg h]
    simp [Addr.add]
theorem Rd.prefixR {w : World} {a : Option Addr} {Q c n : Nat} {r d : List RV} (h : Rd w (.slice a Q c) Q (vCells (r ++ d))) (hn : r.length = n) : Rd w (.slice a n c) n (vCells r) := by
  obtain ⟨a', cap, e, h⟩ := h
  simp only [Value.slice.injEq, true_and] at e
  obtain ⟨rfl, _⟩ := e
  have e1 : vCells (r ++ d) = vCells r ++ vCells d := by simp [vCells]
  rcases h with ⟨h0, h1⟩ | ⟨b, off, rfl, h⟩
  · rw [e1] at h1
    have h2 := (List.append_eq_nil_iff.1 h1).1
    have h3 : r = [] := by
      have := vc_len r
      rw [h2] at this
      exact List.eq_nil_of_length_eq_zero (by simp at this; omega)
    subst h3
    exact ⟨_, _, rfl, .inl ⟨hn.symm, rfl⟩⟩
  · refine ⟨_, _, rfl, .inr ⟨b, off, rfl, fun j u hj => h j u ?_⟩⟩
    rw [e1, List.getElem?_append_left]
    · exact hj
    · rcases Nat.lt_or_ge j (vCells r).length with h1 | h1
      · exact h1
      · rw [List.getElem?_eq_none h1] at hj; cases hj
theorem older_lt {z rl j k Q : Nat} (h1 : z = rl + j) (h2 : Q = rl + k) (h : j < k) : z < Q := by omega
theorem older_wrap {z rl j : Nat} (h1 : z = rl + j) (h : z < 28) : wrap64 ((rl : Int) + (j : Int)) = (z : Int) := by unfold wrap64; omega
theorem older_el {q r dfs : List RV} {mr : List CV} {rl j z k : Nat} (hq : q = r ++ dfs) (hd : dfs = mr.map CV.df) (hrl : rl = r.length) (hz : z = rl + j) (hk : mr.length = k) (h : j < k) : q.getD z RV0 = (mr.getD j CV0).df := by
  subst hq hd hrl hz hk
  rw [getD_app_right RV0 _ _ _ (by omega)]
  have e : r.length + j - r.length = j := by omega
  rw [e, List.getD, List.getD, List.getElem?_map, List.getElem?_eq_getElem h]
  rfl
theorem older_q {cs : List CV} {q : List RV} {Q : Nat} (h : rowP cs q = 0) (hq : q.length = Q) (hQ : Q ≤ 28) : (∀ v ∈ q, v.tx.size ≤ 9223372036854775807) ∧ (∀ v ∈ q, v.ty < 256) ∧ q.length ≤ 100000 := by
  obtain ⟨_, _, hf⟩ := rowP_ok h
  refine ⟨fun v hv => ?_, fun v hv => ?_, by omega⟩
  · obtain ⟨_, _, _, _, _, _, hs⟩ := form_parts (hf v hv)
    omega
  · obtain ⟨⟨_, h2⟩, _⟩ := form_parts (hf v hv)
    omega
theorem older_enc {v : Nat} {cs : List CV} {q : List RV} (h : rowP cs q = 0) (hg : TG v cs) : (∀ x ∈ encP v q, x < 256) ∧ (encP v q).length ≤ 1000000 := by
  obtain ⟨hl, _, hf⟩ := rowP_ok h
  have h8 : q.length ≤ 8 := by have := hg.ok.len; omega
  have hbd := enc_bd hf h8 v q.length
  rw [List.take_length] at hbd
  exact ⟨encP_256 v q h8, by omega⟩
set_option maxHeartbeats 8000000 in
set_option maxRecDepth 100000 in
theorem older_walk (l : List LC) (hf : ∀ c ∈ l, c.t < 256 ∧ c.d.ty < 256 ∧ c.d.tx.size ≤ 9223372036854775807) (hll : l.length ≤ 9223372036854775807) (a : Option Addr) (cap : Nat)
    (r : List RV) (hrt : ∀ c ∈ r, c.ty < 256 ∧ c.tx.size ≤ 9223372036854775807) (hrl : r.length ≤ 9223372036854775807) (ra : Option Addr) (rc : Nat) (more : List LC) (hfm : ∀ c ∈ more, c.t < 256 ∧ c.d.ty < 256 ∧ c.d.tx.size ≤ 9223372036854775807) (hml : more.length ≤ 9223372036854775807) (ma : Option Addr) (mc : Nat) (hsum : l.length + more.length ≤ 9223372036854775807) (w : World) (hE : Env w)
    (hr : Rd w (.slice a l.length cap) l.length (lCells l)) (hrr : Rd w (.slice ra r.length rc) r.length (vCells r)) (hmm : Rd w (.slice ma more.length mc) more.length (lCells more)) :
    Calls Tryz.prog 12 #[.slice a l.length cap, .slice ra r.length rc, .slice ma more.length mc] w (fun e w' => e = .returned (.bool true) ∧ Below w.heap.size w w') := by
  have aw := fun w' (hb : Below w.heap.size w w') => awake_any w' (hE.below hb)
  have gr := fun w' (hb : Below w.heap.size w w') => great_any r ra rc w' (hrr.kept hb) hrl
  have tb := fun w' (hb : Below w.heap.size w w') => table_any l hf hll a cap w' (hr.kept hb)
  have hgn := @great_no r
  obtain ⟨n, hn⟩ : ∃ n, n = min l.length 8 := ⟨_, rfl⟩
  have hg := fun h0 => tab_good l n h0 (by omega) (fun c hc => (hf c hc).2.2)
  have hv1 := verAt_bd l n
  have hct := colsTo_len l n
  have hnm : ∀ i, i < n → ((colsTo l n).getD i CV0).nm = nmOf i := fun i hi => by rw [colsTo_get l n i hi]; rfl
  have tb2 := fun w' (hb : Below w.heap.size w w') => table_any more hfm hml ma mc w' (hmm.kept hb)
  obtain ⟨n2, hn2⟩ : ∃ n2, n2 = min more.length 8 := ⟨_, rfl⟩
  have hg2 := fun h0 => tab_good more n2 h0 (by omega) (fun c hc => (hfm c hc).2.2)
  have hct2 := colsTo_len more n2
  unfold TablePost at tb2
  rw [← hn2] at tb2
  generalize colsTo more n2 = cs2 at *
  generalize verAt more n2 = ver2 at *
  unfold TablePost at tb
  rw [← hn] at tb
  generalize colsTo l n = cs at *
  generalize verAt l n = ver at *
  obtain ⟨m, hm⟩ : ∃ m, m = l.length := ⟨_, rfl⟩
  obtain ⟨rl, hrl2⟩ : ∃ m, m = r.length := ⟨_, rfl⟩
  obtain ⟨k0, hk0⟩ : ∃ m, m = more.length := ⟨_, rfl⟩
  rw [← hm, ← hk0] at hsum
  rw [← hm] at tb hn ⊢
  rw [← hrl2] at gr hgn ⊢
  rw [← hk0] at tb2 hn2 ⊢
  generalize greatP r = g at *
  replace aw := Lib.hid aw
  replace gr := Lib.hid gr
  replace tb := Lib.hid tb
  replace hm := Lib.hid hm
  replace hrl2 := Lib.hid hrl2
  replace hk0 := Lib.hid hk0
  replace tb2 := Lib.hid tb2
  replace hg2 := Lib.hid hg2
  replace hnm := Lib.hid hnm
  replace hct2 := Lib.hid hct2
  clear hmm
  replace hg := Lib.hid hg
  replace hgn := Lib.hid hgn
  replace hv1 := Lib.hid hv1
  clear hr
  go_enter Tryz.func12, Tryz.ntmps12
  go_upto_region 1 with fail
  go_wp2_with fail
  refine (aw.out w (Below.refl _ _)).mono ?_
  rintro e w1 ⟨rfl, hb1⟩
  replace hb1 := Lib.hid hb1
  go_wp2_with fail
  refine (gr.out w1 hb1.out).mono ?_
  rintro e w2 ⟨rfl, hb12⟩
  have hb2 := hb1.out.trans (hb12.mono hb1.out.size)
  clear hb12 gr
  cases g with
  | true =>
    replace hb2 := Lib.hid hb2
    go_wp2_with fail
    refine (aw.out w2 hb2.out).mono ?_
    rintro e w3 ⟨rfl, hb23⟩
    have hff := hb2.out.trans (hb23.mono hb2.out.size)
    replace hff := Lib.hid hff
    clear hb23
    go_wp2_with fail
    go_ret
    exact ⟨rfl, hff.out⟩
  | false =>
    by_cases hm0 : m = 0
    · have d0 : ((m : Int) == 0) = true := by rw [beq_iff_eq]; omega
      replace hb2 := Lib.hid hb2
      replace hm0 := Lib.hid hm0
      go_wp2_with fail
      refine (aw.out w2 hb2.out).mono ?_
      rintro e w3 ⟨rfl, hb23⟩
      have hff := hb2.out.trans (hb23.mono hb2.out.size)
      replace hff := Lib.hid hff
      clear hb23
      go_wp2_with fail
      go_ret
      exact ⟨rfl, hff.out⟩
    · have d0 : ((m : Int) == 0) = false := by rw [beq_eq_false_iff_ne]; omega
      by_cases hk00 : k0 = 0
      · have d1 : ((k0 : Int) == 0) = true := by rw [hk00]; rfl
        replace hk00 := Lib.hid hk00
        replace hb2 := Lib.hid hb2
        replace hm0 := Lib.hid hm0
        go_wp2_with fail
        refine (aw.out w2 hb2.out).mono ?_
        rintro e w3 ⟨rfl, hb23⟩
        have hff := hb2.out.trans (hb23.mono hb2.out.size)
        replace hff := Lib.hid hff
        clear hb23
        go_wp2_with fail
        go_ret
        exact ⟨rfl, hff.out⟩
      have d1 : ((k0 : Int) == 0) = false := by rw [beq_eq_false_iff_ne]; omega
      by_cases h88 : 8 < m + k0
      · have d2 : decide ((m : Int) + (k0 : Int) > 8) = true := decide_eq_true (by omega)
        have d2b : decide (8 < (m : Int) + (k0 : Int)) = true := decide_eq_true (by omega)
        have d2c : decide (8 < m + k0) = true := decide_eq_true (by omega)
        replace hk00 := Lib.hid hk00
        replace hb2 := Lib.hid hb2
        replace hm0 := Lib.hid hm0
        go_wp2_with fail
        refine (aw.out w2 hb2.out).mono ?_
        rintro e w3 ⟨rfl, hb23⟩
        have hff := hb2.out.trans (hb23.mono hb2.out.size)
        replace hff := Lib.hid hff
        clear hb23
        go_wp2_with fail
        go_ret
        exact ⟨rfl, hff.out⟩
      have d2 : decide ((m : Int) + (k0 : Int) > 8) = false := decide_eq_false (by omega)
      have d2b : decide (8 < (m : Int) + (k0 : Int)) = false := decide_eq_false (by omega)
      have d2c : decide (8 < m + k0) = false := decide_eq_false (by omega)
      have hmk8 : m + k0 ≤ 8 := by omega
      have hnk : n = m ∧ n2 = k0 := by omega
      obtain ⟨hnm1, hnk2⟩ := hnk
      have hn20 : 0 < n2 := by omega
      have hn28 : n + n2 ≤ 8 := by omega
      have hG2t := hg2.out hn20
      replace hnm1 := Lib.hid hnm1
      replace hnk2 := Lib.hid hnk2
      replace hk00 := Lib.hid hk00
      replace h88 := Lib.hid h88
      replace hn2 := Lib.hid hn2
      replace hsum := Lib.hid hsum
      have hn0 : 0 < n := by omega
      have hn8 : n ≤ 8 := by omega
      have hG := hg.out hn0
      have hr20 := hgn.out rfl
      replace hb2 := Lib.hid hb2
      replace hm0 := Lib.hid hm0
      replace hn := Lib.hid hn
      clear hg hgn
      go_wp2_with fail
      refine (tb.out w2 hb2.out).mono ?_
      rintro e w3 ⟨sa, sc, rfl, hR⟩
      have hb3 := hb2.out.trans (hR.b.mono hb2.out.size)
      clear tb aw hb1
      obtain ⟨W4, hW4⟩ : ∃ W4, W4 = w3.alloc (.cells #[.string tagS, .int .i64 (ver : Int), .slice sa n sc, .slice none 0 0, .int .u64 0, .int .u64 0] 32) := ⟨_, rfl⟩
      have hT : Has W4 w3.heap.size [.string tagS, .int .i64 (ver : Int), .slice sa n sc, .slice none 0 0, .int .u64 0, .int .u64 0] 32 := by rw [hW4]; exact Has.new _ _ _
      have hb34 : Below w3.heap.size w3 W4 := by rw [hW4]; exact (Below.refl _ _).alloc (Nat.le_refl _) _
      have hb4 := hb3.trans (hb34.mono hb3.size)
      have hR4 := (Rd.of_own hR.o).kept hb34
      rw [← hct] at hR4
      have kT := fun w' (hb : Below W4.heap.size W4 w') => hT.only (Only.of_below hb) (Nat.not_le.2 hT.lt)
      have hrr4 := hrr.kept hb4
      have hls : ∀ v ∈ r, v.tx.size ≤ 9223372036854775807 := fun v hv => (hrt v hv).2
      have hrm := hrl2.out
      rw [hrl2.out] at hr20
      have kV := fun w' (hb : Below W4.heap.size W4 w') => values_any r (fun v hv => (hrt v hv).1) ra rc w' (hrr4.kept hb) (by omega)
      have kEok := fun hz w' (hb : Below W4.heap.size W4 w') => rowenc_ok One.tag hG hls (by omega) (hR4.kept hb) (hrr4.kept hb) (hE.below (hb4.trans (hb.mono hb4.size))) hz
      have kEbad := fun hz w' (hb : Below W4.heap.size W4 w') => rowenc_bad One.tag hG hls (by omega) (hR4.kept hb) (hrr4.kept hb) (hE.below (hb4.trans (hb.mono hb4.size))) hz
      have hncap : n ≤ sc := hR.cap
      have kCs := fun w' (hb : Below W4.heap.size W4 w') => hR4.kept hb
      have kEnv := fun w' (hb : Below W4.heap.size W4 w') => hE.below (hb4.trans (hb.mono hb4.size))
      have kRr := fun w' (hb : Below W4.heap.size W4 w') => hrr4.kept hb
      have kD := fun (p : List Nat) (hp : ∀ x ∈ p, x < 256) (hpl : p.length ≤ 1000000) (pa : Option Addr) (pc : Nat) (hpc : p.length ≤ pc) w' (hb : Below W4.heap.size W4 w') (hrp : Rd w' (.slice pa p.length pc) p.length (bcells p)) => decode_any tagS 116 One.tag ver cs hG sa sc (by rw [hct]; exact hncap) p hp hpl pa pc hpc w' (hE.below (hb4.trans (hb.mono hb4.size))) (hR4.kept hb) hrp
      rw [← hrl2.out] at kV kEok kEbad
      rw [hct] at kEok kEbad kD
      obtain ⟨P, hP⟩ : ∃ P, P = rowP cs r := ⟨_, rfl⟩
      rw [← hP] at kEok kEbad
      have kE : ∀ w', Below W4.heap.size W4 w' → Calls Tryz.prog 16 #[.agg #[.string tagS, .int .i64 (ver : Int), .slice sa n sc, .slice none 0 0, .int .u64 0, .int .u64 0], .slice ra rl rc] w' (EncV w' ver r P) := by
        intro w' hb
        by_cases h0 : P = 0
        · rw [h0]
          exact (kEok h0 w' hb).mono fun _ _ h => EncV.ok h
        · exact (kEbad h0 w' hb).mono fun _ _ h => EncV.bad h0 h
      have t0 := hT.cell (o := 0) rfl
      have t1 := hT.cell (o := 1) rfl
      have t2 := hT.cell (o := 2) rfl
      have t3 := hT.cell (o := 3) rfl
      have t4 := hT.cell (o := 4) rfl
      have t5 := hT.cell (o := 5) rfl
      replace hW4 := Lib.hid hW4
      replace kT := Lib.hid kT
      replace kV := Lib.hid kV
      replace kE := Lib.hid kE
      replace kD := Lib.hid kD
      replace kCs := Lib.hid kCs
      replace kEnv := Lib.hid kEnv
      replace kRr := Lib.hid kRr
      replace hP := Lib.hid hP
      replace hb3 := Lib.hid hb3
      replace hb34 := Lib.hid hb34
      replace hb4 := Lib.hid hb4
      replace hrm := Lib.hid hrm
      replace hct := Lib.hid hct
      clear hR hR4 hrr hrr4 hrl hf hll hT kEok kEbad
      go_upto_region 4 with fail
      rw [← hW4.out]
      go_wp2_with fail
      refine (kE.out W4 (Below.refl _ _)).mono ?_
      rintro e w5 ⟨ea, en, ec, rfl, hb45, henok⟩
      have hbw5 := hb4.out.trans (hb45.mono hb4.out.size)
      have Kt := kT.out w5 hb45
      clear t0 t1 t2 t3 t4 t5
      replace henok := Lib.hid henok
      replace hbw5 := Lib.hid hbw5
      by_cases hP0 : P = 0
      · have dP : ((P : Int) != 0) = false := by simp [hP0]
        obtain ⟨hen, hRe⟩ := henok.out hP0
        have hz := hP.out.symm.trans hP0
        obtain ⟨hlr, _, hfo⟩ := rowP_ok hz
        have hl8 : r.length ≤ 8 := by have := hG.ok.len; omega
        have hbd := enc_bd hfo hl8 ver r.length
        rw [List.take_length] at hbd
        have h256 := encP_256 ver r hl8
        have hcp := hRe.cap
        have hnames : ∀ i, i < cs.length → (cs.getD i CV0).nm = nmOf i := fun i hi => hnm.out i (by rw [← hct.out]; exact hi)
        have hvb := hv1.out
        have hGA : TG (ver + 1) (cs ++ (mrOf cs2 n2).map (CV.bump ((ver + 1 : Nat) : Int))) := hG.add hG2t (by rw [hct2.out]; omega) (by rw [hct.out]; omega) (by omega) hnames
        obtain ⟨mr, hmre⟩ : ∃ mr, mr = mrOf cs2 n2 := ⟨_, rfl⟩
        have hmrl : mr.length = n2 := by rw [hmre]; exact mrOf_len _ _
        rw [← hmre] at hGA
        have hold := older_dec (k := n2) (cs2 := cs2) hG (by rw [← hmre]; exact hGA) r hz
        have hrow2 := older_row (k := n2) (cs2 := cs2) (by rw [← hmre]; exact hGA) r hz
        rw [← hmre] at hold hrow2
        have hRe0 := hRe.rd
        have kRe := fun w' (hb : Below w5.heap.size w5 w') => hRe0.kept hb
        have tb3 := tb2.out w5 hbw5.out
        replace hP0 := Lib.hid hP0
        replace hen := Lib.hid hen
        replace hz := Lib.hid hz
        replace hold := Lib.hid hold
        replace hrow2 := Lib.hid hrow2
        replace tb3 := Lib.hid tb3
        replace kRe := Lib.hid kRe
        replace hmre := Lib.hid hmre
        replace hmrl := Lib.hid hmrl
        replace hb45 := Lib.hid hb45
        clear hRe hRe0 hlr hnames hnm tb2 hg2 Kt
        go_wp2_with fail
        refine tb3.out.mono ?_
        rintro e w6 ⟨sa2, sc2, rfl, hR6⟩
        have hb6 := hb45.out.trans (hR6.b.mono hb45.out.size)
        have hb56 := hR6.b
        have hR6d := hR6.rd
        rw [hnk2.out]
        have hfl : ∀ wx, (Instr.field 32 (.agg #[.string tagS, .int .i64 (ver2 : Int), .slice sa2 k0 sc2, .slice none 0 0, .int .u64 0, .int .u64 0]) 2).run Tryz.prog wx = .ok (.slice sa2 k0 sc2) wx := fun wx => by rfl
        have hct2k := hct2.out
        rw [hnk2.out] at hct2k hR6 hR6d
        rw [hnk2.out] at hmrl
        have hk8 : k0 ≤ 8 := by omega
        have h0 : RowB w6 78 9 0 (cCells (mr.take 0)) none 0 w6 := RowB.nil _ _ _
        replace hct2k := Lib.hid hct2k
        replace hR6d := Lib.hid hR6d
        replace h0 := Lib.hid h0
        replace hb56 := Lib.hid hb56
        replace hb6 := Lib.hid hb6
        clear hR6
        go_wp2_with fail
        go_loopw [10, 62] (fun x i wr => ∃ (j : Nat) (aa : Option Addr) (ac : Nat), j ≤ k0 ∧ i = .int .i64 j ∧ x = .slice aa j ac ∧ RowB w6 78 9 j (cCells (mr.take j)) aa ac wr) (fun _ i _ => k0 - (RowKit.intOf i).toNat)
        case atStart => exact ⟨0, none, 0, by omega, rfl, rfl, h0.out⟩
        case round =>
          clear h0 hfl
          obtain ⟨j, aa, ac, hj, rfl, rfl, hRj⟩ := hrel
          by_cases hjk : j < k0
          · have hjI : (j : Int) < k0 := by omega
            have hj8 : j < 8 := by omega
            have hjc : j < cs2.length := by have := hct2k.out; omega
            obtain ⟨bl, ol, cl, ea, fa⟩ := (show Rd wr (.slice sa2 cs2.length sc2) cs2.length (cCells cs2) by rw [hct2k.out]; exact hR6d.out.kept hRj.b).col hjc
            simp only [Value.slice.injEq, true_and] at ea
            obtain ⟨rfl, hcap⟩ := ea
            replace hcap := Lib.hid hcap
            have hget := mrOf_get cs2 k0 j hjk
            have htk := take_getD mr j CV0 (by rw [hmrl.out]; exact hjk)
            rw [hmre.out, hnk2.out, hget] at htk
            have hc := fun i v hi => fa i v hi
            generalize cs2.getD j CV0 = c at *
            obtain ⟨nm, ty, nl, sc', ⟨dty, dnl, dn, dtx, db⟩⟩ := c
            have c0 : wr.cell? ⟨bl, ol + j * 9, none⟩ = _ := hc 0 _ rfl
            have c1 := hc 1 _ rfl
            have c2 := hc 2 _ rfl
            have c3 := hc 3 _ rfl
            have c4 := hc 4 _ rfl
            have c5 := hc 5 _ rfl
            have c6 := hc 6 _ rfl
            have c7 := hc 7 _ rfl
            have c8 := hc 8 _ rfl
            obtain ⟨X, hX⟩ : ∃ X, X = ((wr.alloc (.cells #[.string nm, .int .u8 (ty : Int), .bool nl, .int .i64 sc', .int .u8 (dty : Int), .bool dnl, .int .i64 dn, .string dtx, .bool db] 78)).alloc (.cells #[.int .u8 (65 + (j : Int))] 5)) := ⟨_, rfl⟩
            have hz1 : (wr.alloc (.cells #[.string nm, .int .u8 (ty : Int), .bool nl, .int .i64 sc', .int .u8 (dty : Int), .bool dnl, .int .i64 dn, .string dtx, .bool db] 78)).heap.size = wr.heap.size + 1 := by simp
            have hXc : Has X wr.heap.size [.string nm, .int .u8 (ty : Int), .bool nl, .int .i64 sc', .int .u8 (dty : Int), .bool dnl, .int .i64 dn, .string dtx, .bool db] 78 := by rw [hX]; exact (Has.new wr _ _).alloc _
            have hXb : Has X (wr.heap.size + 1) [.int .u8 (65 + (j : Int))] 5 := by rw [hX, ← hz1]; exact Has.new _ _ _
            have hcv := conv_oneA j hj8 (wr.heap.size + 1) X (hXb.cell (o := 0) rfl)
            have hXR : RowB w6 78 9 j (cCells (mr.take j)) aa ac X := by rw [hX]; exact (hRj.alloc _).alloc _
            have x0 := hXc.cell (o := 0) rfl
            have xf := hXc.free 0
            obtain ⟨Y, hY⟩ : ∃ Y, Y = X.setCell ⟨wr.heap.size, 0, none⟩ (.string (nmA j)) := ⟨_, rfl⟩
            have hYc : Has Y wr.heap.size [.string (nmA j), .int .u8 (ty : Int), .bool nl, .int .i64 sc', .int .u8 (dty : Int), .bool dnl, .int .i64 dn, .string dtx, .bool db] 78 := by rw [hY]; exact hXc.set 0 _
            have hYR : RowB w6 78 9 j (cCells (mr.take j)) aa ac Y := by
              rw [hY]
              exact hXR.other ⟨wr.heap.size, 0, none⟩ (fun kk hk => by have := ownsRow_lt hRj.o hk; show kk ≠ wr.heap.size; omega) (hRj.b.size) _
            have y0 := hYc.cell (o := 0) rfl
            have y1 := hYc.cell (o := 1) rfl
            have y2 := hYc.cell (o := 2) rfl
            have y3 := hYc.cell (o := 3) rfl
            have y4 := hYc.cell (o := 4) rfl
            have y5 := hYc.cell (o := 5) rfl
            have y6 := hYc.cell (o := 6) rfl
            have y7 := hYc.cell (o := 7) rfl
            have y8 := hYc.cell (o := 8) rfl
            have hR5 := hYR.alloc (.cells #[.string (nmA j), .int .u8 (ty : Int), .bool nl, .int .i64 sc', .int .u8 (dty : Int), .bool dnl, .int .i64 dn, .string dtx, .bool db] 78)
            have hN5 := Has.new Y [.string (nmA j), .int .u8 (ty : Int), .bool nl, .int .i64 sc', .int .u8 (dty : Int), .bool dnl, .int .i64 dn, .string dtx, .bool db] 78
            have hby : (j + 1) * 72 ≤ 140737488355328 := by omega
            obtain ⟨xs, hxs⟩ : ∃ xs, xs = cCells (mr.take j) := ⟨_, rfl⟩
            have htk2 : cCells (mr.take (j + 1)) = xs ++ [.string (nmA j), .int .u8 (ty : Int), .bool nl, .int .i64 sc', .int .u8 (dty : Int), .bool dnl, .int .i64 dn, .string dtx, .bool db] := by
              rw [hxs, hmre.out, hnk2.out, htk, cC_app]
              rfl
            rw [← hxs] at hR5
            have ho5 := hR5.o
            obtain ⟨nj, hnj⟩ : ∃ nj, nj = nmA j := ⟨_, rfl⟩
            rw [← hnj] at hcv hY y0 hR5 hN5 ho5 htk2 hYc
            replace hX := Lib.hid hX
            replace hY := Lib.hid hY
            replace hR5 := Lib.hid hR5
            replace htk := Lib.hid htk
            replace htk2 := Lib.hid htk2
            replace hxs := Lib.hid hxs
            replace hnj := Lib.hid hnj
            clear hc fa hRj hXR hYR hXc hXb hYc hz1
            go_upto_region 11 with fail
            clear c0 c1 c2 c3 c4 c5 c6 c7 c8
            go_wp2_with fail
            rw [← hX.out, hcv]
            go_upto_region 12 with fail
            rw [← hY.out]
            clear x0 xf hcv
            go_wp2_with (at_builtin; refine wpList_app rfl (.tmp 73) (.tmp 75) 27 rfl 78 (.agg #[.string ByteArray.empty, .int .u8 0, .bool false, .int .i64 0, .int .u8 0, .bool false, .int .i64 0, .string ByteArray.empty, .bool false]) 9 72 Tryz.underlying27 infoColB rfl (by decide) (by decide) aa j ac xs (by exact ho5) rfl _ 1 1 [.string nj, .int .u8 (ty : Int), .bool nl, .int .i64 sc', .int .u8 (dty : Int), .bool dnl, .int .i64 dn, .string dtx, .bool db] rfl rfl (by exact news_at hN5) (by simp [Value.oneCell']) (by exact hby) ?_)
            intro s2 c2 w7 own7 only7 fresh7
            have hR7 := hR5.out.app (m := j + 1) (ys := [.string nj, .int .u8 (ty : Int), .bool nl, .int .i64 sc', .int .u8 (dty : Int), .bool dnl, .int .i64 dn, .string dtx, .bool db]) own7 only7 (by simpa using fresh7)
            rw [← htk2.out] at hR7
            replace hR7 := Lib.hid hR7
            clear own7 only7 fresh7 hN5 ho5 hR5 y0 y1 y2 y3 y4 y5 y6 y7 y8
            go_wp2_with fail
            go_roundw
            case rel => exact ⟨j + 1, s2, c2, by omega, by go_num, rfl, hR7.out⟩
            case measure => simp [RowKit.intOf]; omega
          · have hjI : ¬ (j : Int) < k0 := by omega
            have hje : j = k0 := by omega
            rw [hje, List.take_of_length_le (by rw [hmrl.out]; exact Nat.le_refl _)] at hRj
            have hbj := hb6.out.trans (hRj.b.mono hb6.out.size)
            have hb5j := hb56.out.trans (hRj.b.mono hb56.out.size)
            obtain ⟨v2, hv2⟩ : ∃ v2, v2 = ver + 1 := ⟨_, rfl⟩
            obtain ⟨N, hN⟩ : ∃ N, N = n + k0 := ⟨_, rfl⟩
            obtain ⟨cs', hcs'⟩ : ∃ cs', cs' = cs ++ mr.map (CV.bump ((ver + 1 : Nat) : Int)) := ⟨_, rfl⟩
            obtain ⟨dfs, hdfs⟩ : ∃ dfs, dfs = mr.map CV.df := ⟨_, rfl⟩
            have hlN : cs'.length = N := by rw [hcs', List.length_append, List.length_map, hct.out, hmrl.out, hN]
            have hadd := add_any tagS 116 One.tag ver cs mr hG (by rw [hmrl.out]; have := hnk2.out; omega) hGA sa sc aa ac wr (kEnv.out wr hbj) (kCs.out wr hbj) (by rw [hmrl.out]; exact hRj.rd)
            unfold AddPost at hadd
            rw [← hcs', ← hv2] at hGA hadd
            rw [hct.out, hmrl.out, ← hN] at hadd
            have hold2 := hold.out
            have hrow2' := hrow2.out
            rw [← hcs', ← hv2, ← hdfs] at hold2
            rw [← hcs', ← hdfs] at hrow2'
            have hqb := decP_back hGA _ hrow2'
            obtain ⟨q, hq⟩ : ∃ q, q = r ++ dfs := ⟨_, rfl⟩
            rw [← hq] at hold2 hrow2' hqb
            obtain ⟨Q, hQ⟩ : ∃ Q, Q = rl + k0 := ⟨_, rfl⟩
            have hdfl : dfs.length = k0 := by rw [hdfs, List.length_map, hmrl.out]
            have hqQ : q.length = Q := by rw [hq, List.length_append, hdfl, hQ, hrm.out]
            have hv2e : v2 ≤ 1000 := by have := hv1.out; omega
            replace hbj := Lib.hid hbj
            replace hb5j := Lib.hid hb5j
            replace hadd := Lib.hid hadd
            replace hv2 := Lib.hid hv2
            replace hN := Lib.hid hN
            replace hcs' := Lib.hid hcs'
            replace hdfs := Lib.hid hdfs
            replace hlN := Lib.hid hlN
            replace hold2 := Lib.hid hold2
            replace hrow2' := Lib.hid hrow2'
            replace hqb := Lib.hid hqb
            replace hq := Lib.hid hq
            replace hQ := Lib.hid hQ
            replace hqQ := Lib.hid hqQ
            replace hdfl := Lib.hid hdfl
            have hRjd := hRj.rd
            replace hRjd := Lib.hid hRjd
            replace hRj := Lib.hid hRj
            have Kj := kT.out wr hbj.out
            have t0 := Kj.cell (o := 0) rfl
            have t1 := Kj.cell (o := 1) rfl
            have t2 := Kj.cell (o := 2) rfl
            have t3 := Kj.cell (o := 3) rfl
            have t4 := Kj.cell (o := 4) rfl
            have t5 := Kj.cell (o := 5) rfl
            rw [hje]
            replace hje := Lib.hid hje
            clear Kj hold hrow2
            go_wp2_with fail
            refine hadd.out.mono ?_
            rintro e w8 ⟨ua, uc, rfl, hR8⟩
            have hb8 := hbj.out.trans (hR8.b.mono hbj.out.size)
            have hb58 := hb5j.out.trans (hR8.b.mono hb5j.out.size)
            have hmr8 := hRjd.out.kept hR8.b
            obtain ⟨W9, hW9⟩ : ∃ W9, W9 = w8.alloc (.cells #[.string tagS, .int .i64 (v2 : Int), .slice ua N uc, .slice none 0 0, .int .u64 0, .int .u64 0] 32) := ⟨_, rfl⟩
            have hU : Has W9 w8.heap.size [.string tagS, .int .i64 (v2 : Int), .slice ua N uc, .slice none 0 0, .int .u64 0, .int .u64 0] 32 := by rw [hW9]; exact Has.new _ _ _
            have hb89 : Below w8.heap.size w8 W9 := by rw [hW9]; exact (Below.refl _ _).alloc (Nat.le_refl _) _
            have hb9 := hb8.trans (hb89.mono hb8.size)
            have hb59 := hb58.trans (hb89.mono hb58.size)
            have hmr9 := hmr8.kept hb89
            have hU9 := hR8.rd.kept hb89
            have hNuc := hR8.cap
            rw [← hlN.out] at hU9
            have kU := fun w' (hb : Below W9.heap.size W9 w') => hU.only (Only.of_below hb) (Nat.not_le.2 hU.lt)
            have kDU := fun (p : List Nat) (hp : ∀ x ∈ p, x < 256) (hpl : p.length ≤ 1000000) (pa : Option Addr) (pc : Nat) (hpc : p.length ≤ pc) w' (hb : Below W9.heap.size W9 w') (hrp : Rd w' (.slice pa p.length pc) p.length (bcells p)) => decode_any tagS 116 One.tag v2 cs' hGA ua uc (by rw [hlN.out]; exact hNuc) p hp hpl pa pc hpc w' (kEnv.out w' (hb9.trans (hb.mono hb9.size))) (hU9.kept hb) hrp
            rw [hlN.out] at kDU
            have hDU : Calls Tryz.prog 31 #[.agg #[.string tagS, .int .i64 (v2 : Int), .slice ua N uc, .slice none 0 0, .int .u64 0, .int .u64 0], .slice ea en ec] W9 (fun e w' => ∃ a c, e = .returned (.tuple #[.slice a Q c, .int .i64 0]) ∧ RowB W9 50 5 Q (vCells q) a c w') := by
              have hrd := kRe.out W9 hb59
              have he := hen.out
              rw [he] at hrd hcp ⊢
              have h := kDU (encP ver r) h256 (by omega) ea ec hcp W9 (Below.refl _ _) hrd
              unfold DecPost at h
              rw [hold2.out] at h
              simp only at h
              rw [hqQ.out] at h
              exact h
            replace hW9 := Lib.hid hW9
            replace hb8 := Lib.hid hb8
            replace hb58 := Lib.hid hb58
            replace hb89 := Lib.hid hb89
            replace hb9 := Lib.hid hb9
            replace hb59 := Lib.hid hb59
            replace hmr9 := Lib.hid hmr9
            replace hU9 := Lib.hid hU9
            replace kU := Lib.hid kU
            replace kDU := Lib.hid kDU
            replace hDU := Lib.hid hDU
            have u0 := hU.cell (o := 0) rfl
            have u1 := hU.cell (o := 1) rfl
            have u2 := hU.cell (o := 2) rfl
            have u3 := hU.cell (o := 3) rfl
            have u4 := hU.cell (o := 4) rfl
            have u5 := hU.cell (o := 5) rfl
            clear hmr8 hR8 hU t0 t1 t2 t3 t4 t5
            go_upto_region 15 with fail
            rw [← hW9.out]
            go_wp2_with fail
            refine hDU.out.mono ?_
            rintro e w10 ⟨qa, qc, rfl, hR10⟩
            have hb910 := hR10.b
            have hb10 := hb9.out.trans (hb910.mono hb9.out.size)
            have hQcap := hR10.cap
            have hq10 := hR10.rd
            have hqa := hR10.addr
            clear hR10
            replace hrm := hrm.out
            have hQpos : 0 < Q := by have := hQ.out; have := hnk2.out; omega
            have hQ40 : Q ≤ 28 := by have := hQ.out; have := hrm; omega
            obtain ⟨qg, rfl⟩ : ∃ qg, qa = some ⟨qg, 0, none⟩ := hqa hQpos
            have hslq := cut_row qg Q qc rl (by have := hQ.out; omega) hQcap
            have hsumQ : IntKind.i64.wrap ((rl : Int) + (k0 : Int)) = (Q : Int) := by rw [IntWalk.i64_in _ (by omega)]; have := hQ.out; omega
            have hQQ : ((Q : Int) != (Q : Int)) = false := by simp
            have hsumQ2 : wrap64 ((rl : Int) + (k0 : Int)) = (Q : Int) := by have := hQ.out; unfold wrap64; omega
            replace hsumQ2 := Lib.hid hsumQ2
            have hvals : ∀ wx, Below w10.heap.size w10 wx → Calls Tryz.prog 19 #[.slice ra rl rc] wx (RowPost wx 54 5 rl (rvCells r)) := fun wx hx => kV.out wx (hb10.trans (hx.mono hb10.size))
            have hqr : ∀ wx, Below w10.heap.size w10 wx → Rd wx (.slice (some ⟨qg, 0, none⟩) rl qc) rl (vCells r) := by
              intro wx hx
              have h1 := hq10.kept hx
              rw [hq.out] at h1
              exact Rd.prefixR h1 hrm.symm
            have hsm : ∀ (s1 : Option Addr) (p1 : Nat) wx, Below w10.heap.size w10 wx → Rd wx (.slice s1 rl p1) rl (rvCells r) → Calls Tryz.prog 32 #[.slice (some ⟨qg, 0, none⟩) rl qc, .slice s1 rl p1] wx (RPost wx (.bool true)) := by
              intro s1 p1 wx hx h1
              have h2 := hqr wx hx
              rw [hrm] at h1 h2 ⊢
              exact same_any r (fun v hv => (hrt v hv).1) (by omega) (some ⟨qg, 0, none⟩) qc s1 p1 wx h2 h1
            have hd0 : Below w10.heap.size w10 w10.drew := below_drew (Below.refl _ _)
            replace hb910 := Lib.hid hb910
            replace hb10 := Lib.hid hb10
            replace hq10 := Lib.hid hq10
            replace hvals := Lib.hid hvals
            replace hqr := Lib.hid hqr
            replace hsm := Lib.hid hsm
            replace hrm := Lib.hid hrm
            clear u0 u1 u2 u3 u4 u5 hDU
            go_upto_region 16 with fail
            refine wp_region_call2 22 23 [] [24] (C0 := fun w' => Below w10.heap.size w10 w') (C1 := fun v w' => (∃ s1 p1, v = .slice s1 rl p1) ∧ Rd w' v rl (rvCells r) ∧ Below w10.heap.size w10 w') (C2 := fun v u w' => (∃ s1 p1, v = .slice s1 rl p1) ∧ u = .bool true ∧ Below w10.heap.size w10 w') (by kernel_rfl) (by kernel_rfl) (by decide) (by decide) (by kernel_rfl) (by kernel_rfl) (by kernel_rfl) hd0 (fun wx hx => ?_) (fun v wx hx => ?_) (fun v u hx => ?_)
            · obtain ⟨e, w', s1, p1, _, h⟩ := Calls.ex (hvals.out wx hx)
              exact ⟨_, w', ⟨s1, p1, rfl⟩, Rd.of_own h.o, hx.trans (h.b.mono hx.size)⟩
            · obtain ⟨⟨s1, p1, rfl⟩, hr1, hbx⟩ := hx
              obtain ⟨e, w', _, h⟩ := Calls.ex (hsm.out s1 p1 wx hbx hr1)
              exact ⟨_, w', ⟨s1, p1, rfl⟩, rfl, hbx.trans (h.mono hbx.size)⟩
            · obtain ⟨w', ⟨s1, p1, rfl⟩, rfl, _⟩ := hx
              generalize hC : cls2 _ _ _ = CC
              have c0 : ∀ wx, CC [] wx → Calls Tryz.prog 19 #[.slice ra rl rc] wx (fun e w'' => ∃ v, e = .returned v ∧ CC [v] w'') := by
                intro wx hx
                rw [← hC] at hx ⊢
                replace hx : Below w10.heap.size w10 wx := hx
                refine (hvals.out wx hx).mono ?_
                rintro e w'' ⟨s1, p1, rfl, h⟩
                exact ⟨_, rfl, ⟨s1, p1, rfl⟩, Rd.of_own h.o, hx.trans (h.b.mono hx.size)⟩
              have c1 : ∀ wx, CC [.slice s1 rl p1] wx → Calls Tryz.prog 32 #[.slice (some ⟨qg, 0, none⟩) rl qc, .slice s1 rl p1] wx (fun e w'' => ∃ v, e = .returned v ∧ CC [.slice s1 rl p1, v] w'') := by
                intro wx hx
                rw [← hC] at hx ⊢
                obtain ⟨_, hr1, hbx⟩ : (∃ s c, Value.slice s1 rl p1 = .slice s rl c) ∧ Rd wx (.slice s1 rl p1) rl (rvCells r) ∧ Below w10.heap.size w10 wx := hx
                refine (hsm.out s1 p1 wx hbx hr1).mono ?_
                rintro e w'' ⟨rfl, h⟩
                exact ⟨_, rfl, ⟨s1, p1, rfl⟩, rfl, hbx.trans (h.mono hbx.size)⟩
              have hend : ∀ wx, CC [.slice s1 rl p1, .bool true] wx → Below w10.heap.size w10 wx := by
                intro wx hx
                rw [← hC] at hx
                exact (show _ ∧ _ ∧ Below w10.heap.size w10 wx from hx).2.2
              replace hC := Lib.hid hC
              replace c0 := Lib.hid c0
              replace c1 := Lib.hid c1
              replace hend := Lib.hid hend
              replace hsumQ := Lib.hid hsumQ
              refine lex_chunk 0 22 0 _ _ (fun _ _ => Nat.zero_le _) (by kernel_rfl) (fun j hj => by unfold rk2; rw [if_neg (by omega), if_neg (by omega)]) (by decide) ?_
              simp only [List.take_succ_cons, List.take_zero, List.drop_succ_cons, List.drop_zero]
              iterate 13 (go_big_quiet_want; go_big_quiet_op; first | go_big_quiet_on | (refine ⟨_, fun _ _ => rfl, ?_⟩; go_big_quiet_on))
              go_big_quiet_want; go_big_quiet_op
              refine ⟨.int .i64 (Q : Int), fun wx hx => by simp [go_sem, hsumQ.out, hsumQ2.out], ?_⟩
              go_big_quiet_on
              go_big_quiet_want; go_big_quiet_op
              refine ⟨.bool false, fun wx hx => by simp [go_sem], ?_⟩
              go_big_quiet_on
              iterate 5 (go_big_quiet_want; go_big_quiet_op; first | go_big_quiet_on | (refine ⟨_, fun _ _ => rfl, ?_⟩; go_big_quiet_on))
              go_big_quiet_want; go_big_quiet_op
              refine ⟨.slice (some ⟨qg, 0, none⟩) rl qc, fun wx hx => by first | rfl | exact ⟨rfl, rfl⟩ | (rw [hslq wx]; exact ⟨rfl, rfl⟩), ?_⟩
              go_big_quiet_on
              iterate 1 (go_big_quiet_want; go_big_quiet_op; first | go_big_quiet_on | (refine ⟨_, fun _ _ => rfl, ?_⟩; go_big_quiet_on))
              refine wpQuiet_nil ?_
              refine lex_call (r := 0) (v := .slice s1 rl p1) rfl (by go_simp; exact rfl) rfl (by kernel_rfl) (fun wx hx => ?_) ?_
              · refine callUpon_mk (f := 19) (args := #[.slice ra rl rc]) (by simp [go_sem]) ?_
                exact c0.out wx hx
              refine lex_call (r := 1) (v := .bool true) rfl (by go_simp; exact rfl) rfl (by kernel_rfl) (fun wx hx => ?_) ?_
              · refine callUpon_mk (f := 32) (args := #[.slice (some ⟨qg, 0, none⟩) rl qc, .slice s1 rl p1]) (by simp [go_sem]) ?_
                exact c1.out wx hx
              refine lex_chunk 2 1 _ _ _ (fun j hj => by obtain rfl : j = 0 := by omega
                                                         decide) (by kernel_rfl) (fun j hj => by unfold rk2; rw [if_neg (by omega), if_neg (by omega)]) (by decide) ?_
              simp only [List.take_succ_cons, List.take_zero, List.drop_succ_cons, List.drop_zero]
              iterate 1 (go_big_quiet_want; go_big_quiet_op; first | go_big_quiet_on | (refine ⟨_, fun _ _ => rfl, ?_⟩; go_big_quiet_on))
              refine wpQuiet_nil ?_
              refine lex_chunk 0 1 _ _ _ (fun _ _ => Nat.zero_le _) (by kernel_rfl) (fun j hj => by unfold rk2; rw [if_neg (by omega), if_neg (by omega)]) (by decide) ?_
              simp only [List.take_succ_cons, List.take_zero, List.drop_succ_cons, List.drop_zero]
              iterate 1 (go_big_quiet_want; go_big_quiet_op; first | go_big_quiet_on | (refine ⟨_, fun _ _ => rfl, ?_⟩; go_big_quiet_on))
              refine wpQuiet_nil ?_
              intro w11 hzz
              have hb11 := hend.out _ (by rw [← hC.out]; exact ⟨hzz.1, rfl, hzz.2.2⟩)
              clear hzz c0 c1 hend hC hslq
              replace hb11 := Lib.hid hb11
              go_wp2_with fail
              go_loopw [118] (fun i wx => ∃ j : Nat, j ≤ k0 ∧ i = .int .i64 j ∧ Below w10.heap.size w10 wx) (fun i _ => k0 - (RowKit.intOf i).toNat)
              case atStart => exact ⟨0, by omega, rfl, hb11.out⟩
              case round =>
                clear hb11
                obtain ⟨j2, hj2, rfl, hBj⟩ := hrel
                by_cases hjk2 : j2 < k0
                · have hjI2 : (j2 : Int) < k0 := by omega
                  obtain ⟨z, hz2⟩ : ∃ z, z = rl + j2 := ⟨_, rfl⟩
                  have hzQ : z < Q := older_lt hz2 hQ.out hjk2
                  have hzQI : (z : Int) < Q := Int.ofNat_lt.2 hzQ
                  have hwz : wrap64 ((rl : Int) + (j2 : Int)) = (z : Int) := older_wrap hz2 (Nat.lt_of_lt_of_le hzQ hQ40)
                  have hel : q.getD z RV0 = (mr.getD j2 CV0).df := older_el hq.out hdfs.out hrm.out hz2 hmrl.out hjk2
                  have kq : ∀ wx, Below wr.heap.size wr wx → ∀ t u, ((q.getD z RV0).cells)[t]? = some u → wx.cell? ⟨qg, z * 5 + t, none⟩ = some u := by
                    intro wx hx t u hu
                    have h := hq10.out.kept (hBj.trans (hx.mono hBj.size))
                    obtain ⟨b', o', c', e', h'⟩ := h.cells hQpos
                    simp only [Value.slice.injEq, Option.some.injEq, Addr.mk.injEq, and_true, true_and] at e'
                    obtain ⟨⟨rfl, rfl⟩, _⟩ := e'
                    have := h' _ _ (vc_get (by rw [hqQ.out]; exact hzQ) t u hu)
                    rw [Nat.zero_add] at this
                    exact this
                  have hmrk : ∀ wx, Below wr.heap.size wr wx → Rd wx (.slice aa mr.length ac) mr.length (cCells mr) := fun wx hx => by
                    have h := hmr9.out.kept (hb910.out.trans ((hBj.trans (hx.mono hBj.size)).mono hb910.out.size))
                    rw [hmrl.out]
                    exact h
                  obtain ⟨bl, ol, cl, ea, _⟩ := (hmrk wr (Below.refl _ _)).col (k := j2) (by rw [hmrl.out]; exact hjk2)
                  simp only [Value.slice.injEq, true_and] at ea
                  obtain ⟨rfl, hcap⟩ := ea
                  have km : ∀ wx, Below wr.heap.size wr wx → ∀ t u, ((mr.getD j2 CV0).cells)[t]? = some u → wx.cell? ⟨bl, ol + j2 * 9 + t, none⟩ = some u := by
                    intro wx hx t u hu
                    obtain ⟨b', o', c', e', h'⟩ := (hmrk wx hx).col (k := j2) (by rw [hmrl.out]; exact hjk2)
                    simp only [Value.slice.injEq, Option.some.injEq, Addr.mk.injEq, and_true, true_and] at e'
                    obtain ⟨⟨rfl, rfl⟩, _⟩ := e'
                    exact h' t u hu
                  rw [hel] at kq
                  generalize mr.getD j2 CV0 = c at *
                  obtain ⟨nm, ty, nl, sc', ⟨dty, dnl, dn, dtx, db⟩⟩ := c
                  have a0 := fun wx hx => kq wx hx 0 _ rfl
                  have a1 := fun wx hx => kq wx hx 1 _ rfl
                  have a2 := fun wx hx => kq wx hx 2 _ rfl
                  have a3 := fun wx hx => kq wx hx 3 _ rfl
                  have a4 := fun wx hx => kq wx hx 4 _ rfl
                  have b4 := fun wx hx => km wx hx 4 _ rfl
                  have b5 := fun wx hx => km wx hx 5 _ rfl
                  have b6 := fun wx hx => km wx hx 6 _ rfl
                  have b7 := fun wx hx => km wx hx 7 _ rfl
                  have b8 := fun wx hx => km wx hx 8 _ rfl
                  simp only [Nat.add_zero] at a0
                  have hEnd : ∀ wx, Below wr.heap.size wr wx → Below w10.heap.size w10 wx := fun wx hx => hBj.trans (hx.mono hBj.size)
                  replace hEnd := Lib.hid hEnd
                  replace a0 := Lib.hid a0
                  replace a1 := Lib.hid a1
                  replace a2 := Lib.hid a2
                  replace a3 := Lib.hid a3
                  replace a4 := Lib.hid a4
                  replace b4 := Lib.hid b4
                  replace b5 := Lib.hid b5
                  replace b6 := Lib.hid b6
                  replace b7 := Lib.hid b7
                  replace b8 := Lib.hid b8
                  replace hel := Lib.hid hel
                  replace hwz := Lib.hid hwz
                  replace hz2 := Lib.hid hz2
                  replace hcap := Lib.hid hcap
                  clear kq km hmrk hBj
                  go_upto_region 21 with fail
                  refine wp_region_quietC (C := fun w' => Below wr.heap.size wr w') (by kernel_rfl) (by kernel_rfl) (below_drew (Below.refl _ _)) ?_
                  iterate 4 (go_big_quiet_want; go_big_quiet_op; first | go_big_quiet_on | (refine ⟨_, fun _ _ => rfl, ?_⟩; go_big_quiet_on))
                  go_big_quiet_want; go_big_quiet_op
                  refine ⟨.int .i64 (z : Int), fun wx hx => by simp [go_sem, hwz.out], ?_⟩
                  go_big_quiet_on
                  iterate 1 (go_big_quiet_want; go_big_quiet_op; first | go_big_quiet_on | (refine ⟨_, fun _ _ => rfl, ?_⟩; go_big_quiet_on))
                  go_big_quiet_want; go_big_quiet_op
                  refine ⟨.agg #[.int .u8 (dty : Int), .bool dnl, .int .i64 dn, .string dtx, .bool db], fun wx hx => by simp [go_sem, a0.out wx hx, a1.out wx hx, a2.out wx hx, a3.out wx hx, a4.out wx hx], ?_⟩
                  go_big_quiet_on
                  iterate 4 (go_big_quiet_want; go_big_quiet_op; first | go_big_quiet_on | (refine ⟨_, fun _ _ => rfl, ?_⟩; go_big_quiet_on))
                  go_big_quiet_want; go_big_quiet_op
                  refine ⟨.agg #[.int .u8 (dty : Int), .bool dnl, .int .i64 dn, .string dtx, .bool db], fun wx hx => by simp [go_sem, b4.out wx hx, b5.out wx hx, b6.out wx hx, b7.out wx hx, b8.out wx hx], ?_⟩
                  go_big_quiet_on
                  go_big_quiet_want; go_big_quiet_op
                  refine ⟨.bool false, fun wx hx => by simp [go_sem], ?_⟩
                  go_big_quiet_on
                  refine wpQuiet_nil ?_
                  intro w' hw'
                  have hF := hEnd.out _ hw'
                  replace hF := Lib.hid hF
                  clear hw' a0 a1 a2 a3 a4 b4 b5 b6 b7 b8
                  go_wp2_with fail
                  go_roundw
                  case rel => exact ⟨j2 + 1, by omega, by go_num, hF.out⟩
                  case measure => simp [RowKit.intOf]; omega
                · have hjI2 : ¬ (j2 : Int) < k0 := by omega
                  obtain ⟨hqs, hqt, hql9⟩ := older_q hrow2'.out hqQ.out hQ40
                  have hb9j := hb910.out.trans (hBj.mono hb910.out.size)
                  have hbWj := hb10.out.trans (hBj.mono hb10.out.size)
                  have hq11 := hq10.out.kept hBj
                  have hUj := kU.out wr hb9j
                  have hec : Calls Tryz.prog 16 #[.agg #[.string tagS, .int .i64 (v2 : Int), .slice ua N uc, .slice none 0 0, .int .u64 0, .int .u64 0], .slice (some ⟨qg, 0, none⟩) Q qc] wr (EncPost wr v2 q) := by
                    have hu := hU9.out.kept hb9j
                    have hq12 := hq11
                    have el := hlN.out
                    have eq := hqQ.out
                    rw [← el]
                    rw [← eq] at hq12 ⊢
                    have hu2 : Rd wr (.slice ua cs'.length uc) cs'.length (cCells cs') := hu
                    exact rowenc_ok One.tag hGA hqs hql9 hu2 hq12 (kEnv.out wr hbWj) hrow2'.out
                  obtain ⟨h256q, hlenq⟩ := older_enc hrow2'.out hGA
                  have u0 := hUj.cell (o := 0) rfl
                  have u1 := hUj.cell (o := 1) rfl
                  have u2 := hUj.cell (o := 2) rfl
                  have u3 := hUj.cell (o := 3) rfl
                  have u4 := hUj.cell (o := 4) rfl
                  have u5 := hUj.cell (o := 5) rfl
                  replace hec := Lib.hid hec
                  replace hb9j := Lib.hid hb9j
                  replace hbWj := Lib.hid hbWj
                  replace hq11 := Lib.hid hq11
                  replace hqs := Lib.hid hqs
                  replace hqt := Lib.hid hqt
                  replace h256q := Lib.hid h256q
                  replace hlenq := Lib.hid hlenq
                  clear hUj hBj
                  go_wp2_with fail
                  refine hec.out.mono ?_
                  rintro e w12 ⟨na, nc, rfl, hR12⟩
                  have hb912 := hb9j.out.trans (hR12.b.mono hb9j.out.size)
                  have hbW12 := hbWj.out.trans (hR12.b.mono hbWj.out.size)
                  have hq12 := hq11.out.kept hR12.b
                  have hn12 := hR12.rd
                  have hncp := hR12.cap
                  obtain ⟨Ln, hLn⟩ : ∃ Ln, Ln = (encP v2 q).length := ⟨_, rfl⟩
                  have hdu : Calls Tryz.prog 31 #[.agg #[.string tagS, .int .i64 (v2 : Int), .slice ua N uc, .slice none 0 0, .int .u64 0, .int .u64 0], .slice na Ln nc] w12 (fun e w' => ∃ a c, e = .returned (.tuple #[.slice a Q c, .int .i64 0]) ∧ RowB w12 50 5 Q (vCells q) a c w') := by
                    have h := kDU.out (encP v2 q) h256q.out hlenq.out na nc hncp w12 hb912 hn12
                    unfold DecPost at h
                    rw [hqb.out] at h
                    simp only at h
                    rw [hqQ.out] at h
                    rw [hLn]
                    exact h
                  have hU12 := kU.out w12 hb912
                  rw [← hLn]
                  clear u0 u1 u2 u3 u4 u5 hec
                  have u0 := hU12.cell (o := 0) rfl
                  have u1 := hU12.cell (o := 1) rfl
                  have u2 := hU12.cell (o := 2) rfl
                  have u3 := hU12.cell (o := 3) rfl
                  have u4 := hU12.cell (o := 4) rfl
                  have u5 := hU12.cell (o := 5) rfl
                  replace hb912 := Lib.hid hb912
                  replace hbW12 := Lib.hid hbW12
                  replace hq12 := Lib.hid hq12
                  replace hn12 := Lib.hid hn12
                  replace hdu := Lib.hid hdu
                  replace hLn := Lib.hid hLn
                  clear hR12 hU12
                  go_wp2_with fail
                  refine hdu.out.mono ?_
                  rintro e w13 ⟨da, dc, rfl, hR13⟩
                  have hbW13 := hbW12.out.trans (hR13.b.mono hbW12.out.size)
                  have hq13 := hq12.out.kept hR13.b
                  have hs13 := hR13.rd
                  have hdt : Calls Tryz.prog 31 #[.agg #[.string tagS, .int .i64 (ver : Int), .slice sa n sc, .slice none 0 0, .int .u64 0, .int .u64 0], .slice na Ln nc] w13 (fun e w' => ∃ a c, e = .returned (.tuple #[.slice a 0 c, .int .i64 14]) ∧ Below w13.heap.size w13 w') := by
                    have h := kD.out (encP v2 q) h256q.out hlenq.out na nc hncp w13 hbW13 (hn12.out.kept hR13.b)
                    have hy := young_dec hG q
                    rw [← hv2.out] at hy
                    unfold DecPost at h
                    rw [hy] at h
                    rw [hLn.out]
                    exact h.mono fun e w' ⟨a, c, he, hr⟩ => ⟨a, c, he, hr.b⟩
                  have hT13 := kT.out w13 hbW13
                  clear u0 u1 u2 u3 u4 u5 hdu
                  have t0 := hT13.cell (o := 0) rfl
                  have t1 := hT13.cell (o := 1) rfl
                  have t2 := hT13.cell (o := 2) rfl
                  have t3 := hT13.cell (o := 3) rfl
                  have t4 := hT13.cell (o := 4) rfl
                  have t5 := hT13.cell (o := 5) rfl
                  replace hbW13 := Lib.hid hbW13
                  replace hq13 := Lib.hid hq13
                  replace hs13 := Lib.hid hs13
                  replace hdt := Lib.hid hdt
                  clear hR13 hT13
                  go_wp2_with fail
                  refine hdt.out.mono ?_
                  rintro e w14 ⟨xa, xc, rfl, hb1314⟩
                  have hbW14 := hbW13.out.trans (hb1314.mono hbW13.out.size)
                  have hs14 := hs13.out.kept hb1314
                  have hva : Calls Tryz.prog 19 #[.slice (some ⟨qg, 0, none⟩) Q qc] w14 (RowPost w14 54 5 Q (rvCells q)) := by
                    have h1 := hq13.out.kept hb1314
                    rw [← hqQ.out] at h1 ⊢
                    exact values_any q hqt.out (some ⟨qg, 0, none⟩) qc w14 h1 hql9
                  replace hbW14 := Lib.hid hbW14
                  replace hs14 := Lib.hid hs14
                  replace hva := Lib.hid hva
                  clear t0 t1 t2 t3 t4 t5 hdt hb1314
                  go_wp2_with fail
                  refine hva.out.mono ?_
                  rintro e w15 ⟨va, vc, rfl, hR15⟩
                  have hbW15 := hbW14.out.trans (hR15.b.mono hbW14.out.size)
                  have hsa : Calls Tryz.prog 32 #[.slice da Q dc, .slice va Q vc] w15 (RPost w15 (.bool true)) := by
                    have h1 := hs14.out.kept hR15.b
                    have h2 := hR15.rd
                    rw [← hqQ.out] at h1 h2 ⊢
                    exact same_any q hqt.out hql9 da dc va vc w15 h1 h2
                  replace hbW15 := Lib.hid hbW15
                  replace hsa := Lib.hid hsa
                  clear hR15 hva
                  go_wp2_with fail
                  refine hsa.out.mono ?_
                  rintro e w16 ⟨rfl, hb1516⟩
                  have hff := hb4.out.trans ((hbW15.out.trans (hb1516.mono hbW15.out.size)).mono hb4.out.size)
                  replace hff := Lib.hid hff
                  clear hb1516 hsa
                  go_wp2_with fail
                  go_ret
                  exact ⟨rfl, hff.out⟩
      · have dP : ((P : Int) != 0) = true := by simp [hP0]
        replace hP0 := Lib.hid hP0
        go_wp2_with fail
        go_ret
        exact ⟨rfl, hbw5.out⟩
end Go.Proofs.YtpjbcadelmjmfaaGreatDoor
