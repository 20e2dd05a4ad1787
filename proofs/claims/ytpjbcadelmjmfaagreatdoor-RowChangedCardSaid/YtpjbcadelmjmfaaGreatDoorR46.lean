/- The walk of RowDecodes. -/
import Derived.Test.YtpjbcadelmjmfaaGreatDoorR39
import Derived.Test.YtpjbcadelmjmfaaGreatDoorR42
import Derived.Test.YtpjbcadelmjmfaaGreatDoorR43
import Derived.Test.YtpjbcadelmjmfaaGreatDoorR45
import Derived.Test.YtpjbcadelmjmfaaGreatDoorDec2
namespace Go.Proofs.YtpjbcadelmjmfaaGreatDoor
open Go.RowKit Go.Lib Go.BigFrame
set_option linter.unusedVariables false

theorem rdecP_eq {ver : Nat} {cs : List CV} (hg : TG ver cs) (p : List Nat) (hp : ∀ x ∈ p, x < 256) : rdecP (ver : Int) cs p = decP ver cs p := by
  unfold rdecP decP
  by_cases h3 : p.length < 3
  · rw [if_pos h3, if_pos h3]
  · rw [if_neg h3, if_neg h3]
    by_cases h4 : p.getD 0 0 + 256 * p.getD 1 0 = 0 ∨ ver < p.getD 0 0 + 256 * p.getD 1 0
    · rw [if_pos (by omega), if_pos h4]
    · rw [if_neg (by omega), if_neg h4, decP_ref hg p hp]
      cases refOk ((p.getD 0 0 + 256 * p.getD 1 0 : Nat) : Int) cs (p.getD 2 0) (p.drop 3) <;> rfl
theorem strict_ty {ty : Nat} {q : List Nat} {x : RV} {t : List Nat} (h : strictP ty q = some (x, t)) : x.ty = ty := by
  unfold strictP at h
  split at h
  · split at h
    · cases h
    · cases h; rfl
  · split at h
    · split at h
      · cases h
      · cases h; rfl
    · split at h
      · cases h
      · cases h; rfl
theorem refGo_ty (V : Int) : ∀ (cs : List CV) (nb : Nat) (p : List Nat) (r : List RV) (t : List Nat), (∀ c ∈ cs, c.ty < 256 ∧ c.df.ty < 256) → refGo V cs nb p = some (r, t) → (∀ v ∈ r, v.ty < 256) ∧ r.length = cs.length
  | [], nb, p, r, t, _, h => by
    simp only [refGo, Option.some.injEq, Prod.mk.injEq] at h
    obtain ⟨rfl, rfl⟩ := h
    exact ⟨by simp, rfl⟩
  | c :: cs, nb, p, r, t, hc, h => by
    have ih := fun nb p r t h => refGo_ty V cs nb p r t (fun d hd => hc d (by simp [hd])) h
    have hc0 := hc c (by simp)
    have key : ∀ (v : RV) (nb' : Nat) (p' : List Nat), v.ty < 256 → (refGo V cs nb' p').map (fun x => (v :: x.1, x.2)) = some (r, t) → (∀ v ∈ r, v.ty < 256) ∧ r.length = (c :: cs).length := by
      intro v nb' p' hv h
      cases hr : refGo V cs nb' p' with
      | none => rw [hr] at h; cases h
      | some y =>
        obtain ⟨r', t'⟩ := y
        rw [hr] at h
        simp only [Option.map_some, Option.some.injEq, Prod.mk.injEq] at h
        obtain ⟨rfl, rfl⟩ := h
        obtain ⟨h1, h2⟩ := ih nb' p' r' t' hr
        refine ⟨fun x hx => ?_, by simp [h2]⟩
        rcases List.mem_cons.1 hx with rfl | hx
        · exact hv
        · exact h1 x hx
    unfold refGo at h
    split at h
    · split at h
      · cases h
      · exact key _ _ _ hc0.2 h
    · split at h
      · split at h
        · cases h
        · exact key _ _ _ hc0.1 h
      · split at h
        · cases h
        · rename_i x r' hs
          split at h
          · cases h
          · exact key _ _ _ (by rw [strict_ty hs]; exact hc0.1) h
theorem decP_ty {ver : Nat} {cs : List CV} (hg : TG ver cs) (p : List Nat) (hp : ∀ x ∈ p, x < 256) : (∀ v ∈ (decP ver cs p).1, v.ty < 256) ∧ (decP ver cs p).1.length ≤ 8 := by
  unfold decP
  split
  · exact ⟨by simp, by simp⟩
  split
  · exact ⟨by simp, by simp⟩
  rw [decP_ref hg p hp]
  unfold refOk
  cases h : refGo ((p.getD 0 0 + 256 * p.getD 1 0 : Nat) : Int) cs (p.getD 2 0) (p.drop 3) with
  | none => exact ⟨by simp, by simp⟩
  | some y =>
    obtain ⟨r, t⟩ := y
    obtain ⟨h1, h2⟩ := refGo_ty _ cs _ _ r t hg.tys h
    have := hg.ok.len
    simp only
    split
    · exact ⟨by simp, by simp⟩
    · rename_i r' hr
      split at hr
      · obtain rfl : r = r' := Option.some.inj hr
        exact ⟨h1, by show r.length ≤ 8; omega⟩
      · cases hr

set_option maxHeartbeats 8000000 in
set_option maxRecDepth 100000 in
theorem decodes_walk (l : List LC) (hf : ∀ c ∈ l, c.t < 256 ∧ c.d.ty < 256 ∧ c.d.tx.size ≤ 9223372036854775807) (hll : l.length ≤ 9223372036854775807) (a : Option Addr) (cap : Nat)
    (p : List Nat) (hp : ∀ x ∈ p, x < 256) (hpl : p.length ≤ 9223372036854775807) (pa : Option Addr) (pc : Nat) (hpc : p.length ≤ pc) (w : World) (hE : Env w)
    (hr : Rd w (.slice a l.length cap) l.length (lCells l)) (hrp : Rd w (.slice pa p.length pc) p.length (bcells p)) :
    Calls Tryz.prog 10 #[.slice a l.length cap, .slice pa p.length pc] w (fun e w' => e = .returned (.bool true) ∧ Below w.heap.size w w') := by
  have aw := fun w' (hb : Below w.heap.size w w') => awake_any w' (hE.below hb)
  have tb := fun w' (hb : Below w.heap.size w w') => table_any l hf hll a cap w' (hr.kept hb)
  obtain ⟨n, hn⟩ : ∃ n, n = min l.length 8 := ⟨_, rfl⟩
  have hg := fun h0 => tab_good l n h0 (by omega) (fun c hc => (hf c hc).2.2)
  have hv1 := verAt_bd l n
  have hct := colsTo_len l n
  unfold TablePost at tb
  rw [← hn] at tb
  generalize colsTo l n = cs at *
  generalize verAt l n = ver at *
  obtain ⟨m, hm⟩ : ∃ m, m = l.length := ⟨_, rfl⟩
  obtain ⟨pl, hpe⟩ : ∃ m, m = p.length := ⟨_, rfl⟩
  rw [← hm] at tb hn ⊢
  rw [← hpe] at hpl hpc ⊢
  replace aw := Lib.hid aw
  replace tb := Lib.hid tb
  replace hm := Lib.hid hm
  replace hpe := Lib.hid hpe
  replace hg := Lib.hid hg
  replace hv1 := Lib.hid hv1
  clear hr
  go_enter Tryz.func10, Tryz.ntmps10
  go_upto_region 1 with fail
  go_wp2_with fail
  refine (aw.out w (Below.refl _ _)).mono ?_
  rintro e w2 ⟨rfl, hb2⟩
  by_cases hbad0 : m = 0 ∨ 3000 < pl
  · have hgo : (((m : Int) == 0) = true) ∨ (((m : Int) == 0) = false ∧ decide ((pl : Int) > 3000) = true) := by
      by_cases h : m = 0
      · left; rw [h]; rfl
      · right; exact ⟨by rw [beq_eq_false_iff_ne]; omega, decide_eq_true (by omega)⟩
    replace hb2 := Lib.hid hb2
    replace hbad0 := Lib.hid hbad0
    replace hn := Lib.hid hn
    rcases hgo with d0 | ⟨d0, d1⟩
    · go_wp2_with fail
      refine (aw.out w2 hb2.out).mono ?_
      rintro e w3 ⟨rfl, hb23⟩
      have hff := hb2.out.trans (hb23.mono hb2.out.size)
      replace hff := Lib.hid hff
      clear hb23
      go_wp2_with fail
      go_ret
      exact ⟨rfl, hff.out⟩
    · go_wp2_with fail
      refine (aw.out w2 hb2.out).mono ?_
      rintro e w3 ⟨rfl, hb23⟩
      have hff := hb2.out.trans (hb23.mono hb2.out.size)
      replace hff := Lib.hid hff
      clear hb23
      go_wp2_with fail
      go_ret
      exact ⟨rfl, hff.out⟩
  · have d0 : ((m : Int) == 0) = false := by rw [beq_eq_false_iff_ne]; omega
    have d1 : decide ((pl : Int) > 3000) = false := decide_eq_false (by omega)
    have d1b : decide (3000 < (pl : Int)) = false := decide_eq_false (by omega)
    have hn0 : 0 < n := by omega
    have hn8 : n ≤ 8 := by omega
    have hpl3 : pl ≤ 3000 := by omega
    have hG := hg.out hn0
    replace hb2 := Lib.hid hb2
    replace hbad0 := Lib.hid hbad0
    replace hn := Lib.hid hn
    clear hg
    go_wp2_with fail
    refine (tb.out w2 hb2.out).mono ?_
    rintro e w3 ⟨sa, sc, rfl, hR⟩
    have hb3 := hb2.out.trans (hR.b.mono hb2.out.size)
    clear tb aw
    obtain ⟨W4, hW4⟩ : ∃ W4, W4 = w3.alloc (.cells #[.string tagS, .int .i64 (ver : Int), .slice sa n sc, .slice none 0 0, .int .u64 0, .int .u64 0] 32) := ⟨_, rfl⟩
    have hT : Has W4 w3.heap.size [.string tagS, .int .i64 (ver : Int), .slice sa n sc, .slice none 0 0, .int .u64 0, .int .u64 0] 32 := by rw [hW4]; exact Has.new _ _ _
    have hb34 : Below w3.heap.size w3 W4 := by rw [hW4]; exact (Below.refl _ _).alloc (Nat.le_refl _) _
    have hb4 := hb3.trans (hb34.mono hb3.size)
    have hR4 := (Rd.of_own hR.o).kept hb34
    rw [← hct] at hR4
    have kT := fun w' (hb : Below W4.heap.size W4 w') => hT.only (Only.of_below hb) (Nat.not_le.2 hT.lt)
    have hrp4 := hrp.kept hb4
    have hncap : n ≤ sc := hR.cap
    have hx := rdecP_eq hG p hp
    obtain ⟨hxt, hx8⟩ := decP_ty hG p hp
    obtain ⟨x, hxe⟩ : ∃ x, x = decP ver cs p := ⟨_, rfl⟩
    have kD : ∀ w', Below W4.heap.size W4 w' → Calls Tryz.prog 31 #[.agg #[.string tagS, .int .i64 (ver : Int), .slice sa n sc, .slice none 0 0, .int .u64 0, .int .u64 0], .slice pa pl pc] w' (DecPost w' x) := by
      intro w' hb
      have h := decode_any tagS 116 One.tag ver cs hG sa sc (by rw [hct]; exact hncap) p hp (by rw [← hpe.out]; omega) pa pc (by rw [← hpe.out]; exact hpc) w' (hE.below (hb4.trans (hb.mono hb4.size))) (hR4.kept hb) (hrp4.kept hb)
      rw [hct, ← hpe.out, ← hxe] at h
      exact h
    have kC := fun w' (hb : Below W4.heap.size W4 w') => columns_any tagS (ver : Int) cs hG.tys (by omega) sa sc w' (hR4.kept hb)
    rw [hct] at kC
    have kR : ∀ (s1 : Option Addr) (c1 : Nat) w', Below W4.heap.size W4 w' → Rd w' (.slice s1 n c1) n (rcCells cs) → Calls Tryz.prog 33 #[.int .i64 (ver : Int), .slice s1 n c1, .slice pa pl pc] w' (RDecPost w' x) := by
      intro s1 c1 w' hb h1
      rw [← hct] at h1
      have h := rdecode_any (ver : Int) cs (by omega) s1 c1 p hp (by rw [← hpe.out]; omega) pa pc (by rw [← hpe.out]; exact hpc) w' h1 (hrp4.kept hb)
      rw [hct, ← hpe.out, hx, ← hxe] at h
      exact h
    have kVr : ∀ w', Below W4.heap.size W4 w' → Calls Tryz.prog 21 #[.slice pa pl pc] w' (RPost w' (.tuple #[.int .i64 (verP p).1, .int .i64 ((verP p).2 : Nat)])) := by
      intro w' hb
      have h := version_p p hp (by rw [← hpe.out]; omega) pa pc w' (hrp4.kept hb)
      rw [← hpe.out] at h
      exact h
    have hcell : ∀ w', Below W4.heap.size W4 w' → ∀ j, j < pl → ∃ bl ol, pa = some ⟨bl, ol, none⟩ ∧ w'.cell? ⟨bl, ol + j, none⟩ = some (.int .u8 ((p.getD j 0 : Nat) : Int)) := by
      intro w' hb j hj
      obtain ⟨bl, ol, e, h⟩ := byte_cell (hrp4.kept hb) (by rw [← hpe.out]; omega)
      exact ⟨bl, ol, e, h j (by rw [← hpe.out]; exact hj)⟩
    rw [← hxe] at hxt hx8
    obtain ⟨L, hL⟩ : ∃ L, L = x.1.length := ⟨_, rfl⟩
    obtain ⟨E, hEe⟩ : ∃ E, E = x.2 := ⟨_, rfl⟩
    have kS : ∀ (qa : Option Addr) (qc : Nat) (va : Option Addr) (vc : Nat) w', Rd w' (.slice qa L qc) L (vCells x.1) → Rd w' (.slice va L vc) L (rvCells x.1) → Calls Tryz.prog 32 #[.slice qa L qc, .slice va L vc] w' (RPost w' (.bool true)) := by
      intro qa qc va vc w' h1 h2
      rw [hL] at h1 h2 ⊢
      exact same_any x.1 hxt (by omega) qa qc va vc w' h1 h2
    have kD2 : ∀ w', Below W4.heap.size W4 w' → Calls Tryz.prog 31 #[.agg #[.string tagS, .int .i64 (ver : Int), .slice sa n sc, .slice none 0 0, .int .u64 0, .int .u64 0], .slice pa pl pc] w' (fun e w'' => ∃ a c, e = .returned (.tuple #[.slice a L c, .int .i64 (E : Nat)]) ∧ RowB w' 50 5 L (vCells x.1) a c w'') := by
      intro w' hb
      rw [hL, hEe]
      exact kD w' hb
    have kR2 : ∀ (s1 : Option Addr) (c1 : Nat) w', Below W4.heap.size W4 w' → Rd w' (.slice s1 n c1) n (rcCells cs) → Calls Tryz.prog 33 #[.int .i64 (ver : Int), .slice s1 n c1, .slice pa pl pc] w' (fun e w'' => ∃ a c, e = .returned (.tuple #[.slice a L c, .int .i64 (E : Nat)]) ∧ RowB w' 54 5 L (rvCells x.1) a c w'') := by
      intro s1 c1 w' hb h1
      rw [hL, hEe]
      exact kR s1 c1 w' hb h1
    have t0 := hT.cell (o := 0) rfl
    have t1 := hT.cell (o := 1) rfl
    have t2 := hT.cell (o := 2) rfl
    have t3 := hT.cell (o := 3) rfl
    have t4 := hT.cell (o := 4) rfl
    have t5 := hT.cell (o := 5) rfl
    replace hW4 := Lib.hid hW4
    replace kT := Lib.hid kT
    replace kD2 := Lib.hid kD2
    replace kR2 := Lib.hid kR2
    replace kC := Lib.hid kC
    replace kVr := Lib.hid kVr
    replace kS := Lib.hid kS
    replace hcell := Lib.hid hcell
    replace hb3 := Lib.hid hb3
    replace hb34 := Lib.hid hb34
    replace hb4 := Lib.hid hb4
    replace hct := Lib.hid hct
    replace hL := Lib.hid hL
    replace hEe := Lib.hid hEe
    replace hxe := Lib.hid hxe
    replace hx := Lib.hid hx
    clear hR hR4 hrp hrp4 hf hll hT kD kR hxt hx8
    go_upto_region 4 with fail
    rw [← hW4.out]
    go_wp2_with fail
    refine (kD2.out W4 (Below.refl _ _)).mono ?_
    rintro e w5 ⟨qa, qc, rfl, hR5⟩
    have hb5 := hR5.b
    have hq5 := hR5.rd
    have Kt := kT.out w5 hb5
    clear t0 t1 t2 t3 t4 t5
    have g1 : ∀ wx, Below w5.heap.size w5 wx → wx.cell? ⟨w3.heap.size, 1, none⟩ = some (.int .i64 (ver : Int)) := fun wx hx => cellk hx (Kt.cell (o := 1) rfl)
    have g2 : ∀ wx, Below w5.heap.size w5 wx → wx.cell? ⟨w3.heap.size, 0, none⟩ = some (.string tagS) ∧ wx.cell? ⟨w3.heap.size, 1, none⟩ = some (.int .i64 (ver : Int)) ∧ wx.cell? ⟨w3.heap.size, 2, none⟩ = some (.slice sa n sc) ∧ wx.cell? ⟨w3.heap.size, 3, none⟩ = some (.slice none 0 0) ∧ wx.cell? ⟨w3.heap.size, 4, none⟩ = some (.int .u64 0) ∧ wx.cell? ⟨w3.heap.size, 5, none⟩ = some (.int .u64 0) :=
      fun wx hx => ⟨cellk hx (Kt.cell (o := 0) rfl), cellk hx (Kt.cell (o := 1) rfl), cellk hx (Kt.cell (o := 2) rfl), cellk hx (Kt.cell (o := 3) rfl), cellk hx (Kt.cell (o := 4) rfl), cellk hx (Kt.cell (o := 5) rfl)⟩
    have kq : ∀ wx, Below w5.heap.size w5 wx → Rd wx (.slice qa L qc) L (vCells x.1) := fun wx hx => hq5.kept hx
    replace hb5 := Lib.hid hb5
    replace g1 := Lib.hid g1
    replace g2 := Lib.hid g2
    replace kq := Lib.hid kq
    clear Kt hq5 hR5
    go_upto_region 5 with fail
    have hd0 : Below w5.heap.size w5 w5.drew := below_drew (Below.refl _ _)
    have b45 : ∀ wx, Below w5.heap.size w5 wx → Below W4.heap.size W4 wx := fun wx hx => hb5.out.trans (hx.mono hb5.out.size)
    refine wp_region_call2 3 5 [] [6] (C0 := fun w' => Below w5.heap.size w5 w') (C1 := fun v w' => (∃ s1 c1, v = .slice s1 n c1) ∧ Rd w' v n (rcCells cs) ∧ Below w5.heap.size w5 w') (C2 := fun v u w' => (∃ s1 c1, v = .slice s1 n c1) ∧ (∃ s2 c2, u = .tuple #[.slice s2 L c2, .int .i64 (E : Nat)] ∧ Rd w' (.slice s2 L c2) L (rvCells x.1)) ∧ Below w5.heap.size w5 w') (by kernel_rfl) (by kernel_rfl) (by decide) (by decide) (by kernel_rfl) (by kernel_rfl) (by kernel_rfl) hd0 (fun wx hx => ?_) (fun v wx hx => ?_) (fun v u hx => ?_)
    · obtain ⟨e, w', s1, c1, _, h⟩ := Calls.ex (kC.out wx (b45 wx hx))
      exact ⟨_, w', ⟨s1, c1, rfl⟩, Rd.of_own h.o, hx.trans (h.b.mono hx.size)⟩
    · obtain ⟨⟨s1, c1, rfl⟩, hr1, hbx⟩ := hx
      obtain ⟨e, w', s2, c2, _, h⟩ := Calls.ex (kR2.out s1 c1 wx (b45 wx hbx) hr1)
      exact ⟨_, w', ⟨s1, c1, rfl⟩, ⟨s2, c2, rfl, Rd.of_own h.o⟩, hbx.trans (h.b.mono hbx.size)⟩
    · obtain ⟨w', ⟨s1, p1, rfl⟩, ⟨s2, p2, rfl, _⟩, _⟩ := hx
      generalize hC : cls2 _ _ _ = CC
      have h0 : ∀ wx, clsAt CC [.slice s1 n p1, .tuple #[.slice s2 L p2, .int .i64 (E : Nat)]] 0 wx → Below w5.heap.size w5 wx := by
        intro wx hx
        rw [← hC] at hx
        rcases cls2_at0 hx with h | h | h
        · exact h
        · exact h.2.2
        · exact h.2.2
      have c0 : ∀ wx, CC [] wx → Calls Tryz.prog 18 #[.agg #[.string tagS, .int .i64 (ver : Int), .slice sa n sc, .slice none 0 0, .int .u64 0, .int .u64 0]] wx (fun e w'' => ∃ v, e = .returned v ∧ CC [v] w'') := by
        intro wx hx
        rw [← hC] at hx ⊢
        replace hx : Below w5.heap.size w5 wx := hx
        refine (kC.out wx (b45 wx hx)).mono ?_
        rintro e w'' ⟨s1, p1, rfl, h⟩
        exact ⟨_, rfl, ⟨s1, p1, rfl⟩, Rd.of_own h.o, hx.trans (h.b.mono hx.size)⟩
      have c1 : ∀ wx, CC [.slice s1 n p1] wx → Calls Tryz.prog 33 #[.int .i64 (ver : Int), .slice s1 n p1, .slice pa pl pc] wx (fun e w'' => ∃ v, e = .returned v ∧ CC [.slice s1 n p1, v] w'') := by
        intro wx hx
        rw [← hC] at hx ⊢
        obtain ⟨_, hr1, hbx⟩ : (∃ s c, Value.slice s1 n p1 = .slice s n c) ∧ Rd wx (.slice s1 n p1) n (rcCells cs) ∧ Below w5.heap.size w5 wx := hx
        refine (kR2.out s1 p1 wx (b45 wx hbx) hr1).mono ?_
        rintro e w'' ⟨s2, p2, rfl, h⟩
        exact ⟨_, rfl, ⟨s1, p1, rfl⟩, ⟨s2, p2, rfl, Rd.of_own h.o⟩, hbx.trans (h.b.mono hbx.size)⟩
      have hend : ∀ wx, CC [.slice s1 n p1, .tuple #[.slice s2 L p2, .int .i64 (E : Nat)]] wx → Rd wx (.slice s2 L p2) L (rvCells x.1) ∧ Below w5.heap.size w5 wx := by
        intro wx hx
        rw [← hC] at hx
        obtain ⟨_, ⟨s3, p3, he, h1⟩, h2⟩ := hx
        cases he
        exact ⟨h1, h2⟩
      have f1 := fun wx hx => g1.out wx (h0 wx hx)
      have f2 := fun wx hx => g2.out wx (h0 wx hx)
      replace hC := Lib.hid hC
      replace h0 := Lib.hid h0
      replace c0 := Lib.hid c0
      replace c1 := Lib.hid c1
      replace hend := Lib.hid hend
      replace f1 := Lib.hid f1
      replace f2 := Lib.hid f2
      replace b45 := Lib.hid b45
      refine lex_chunk 0 3 0 _ _ (fun _ _ => Nat.zero_le _) (by kernel_rfl) (fun j hj => by unfold rk2; rw [if_neg (by omega), if_neg (by omega)]) (by decide) ?_
      simp only [List.take_succ_cons, List.take_zero, List.drop_succ_cons, List.drop_zero]
      go_big_quiet_want; go_big_quiet_op; first | go_big_quiet_on | (refine ⟨_, fun _ _ => rfl, ?_⟩; go_big_quiet_on)
      go_big_quiet_want; go_big_quiet_op
      refine ⟨.int .i64 (ver : Int), fun wx hx => by simp [go_sem, f1.out wx hx], ?_⟩
      go_big_quiet_on
      go_big_quiet_want; go_big_quiet_op
      refine ⟨.agg #[.string tagS, .int .i64 (ver : Int), .slice sa n sc, .slice none 0 0, .int .u64 0, .int .u64 0], fun wx hx => by obtain ⟨u0, u1, u2, u3, u4, u5⟩ := f2.out wx hx; simp [go_sem, u0, u1, u2, u3, u4, u5], ?_⟩
      go_big_quiet_on
      refine wpQuiet_nil ?_
      refine lex_call (r := 0) (v := .slice s1 n p1) rfl (by go_simp; exact rfl) rfl (by kernel_rfl) (fun wx hx => ?_) ?_
      · refine callUpon_mk (f := 18) (args := #[.agg #[.string tagS, .int .i64 (ver : Int), .slice sa n sc, .slice none 0 0, .int .u64 0, .int .u64 0]]) (by simp [go_sem]) ?_
        exact c0.out wx hx
      refine lex_chunk 0 1 _ _ _ (fun _ _ => Nat.zero_le _) (by kernel_rfl) (fun j hj => by unfold rk2; rw [if_neg (by omega), if_neg (by omega)]) (by decide) ?_
      simp only [List.take_succ_cons, List.take_zero, List.drop_succ_cons, List.drop_zero]
      go_big_quiet_want; go_big_quiet_op; first | go_big_quiet_on | (refine ⟨_, fun _ _ => rfl, ?_⟩; go_big_quiet_on)
      refine wpQuiet_nil ?_
      refine lex_call (r := 1) (v := .tuple #[.slice s2 L p2, .int .i64 (E : Nat)]) rfl (by go_simp; exact rfl) rfl (by kernel_rfl) (fun wx hx => ?_) ?_
      · refine callUpon_mk (f := 33) (args := #[.int .i64 (ver : Int), .slice s1 n p1, .slice pa pl pc]) (by simp [go_sem]) ?_
        exact c1.out wx hx
      refine lex_chunk 0 5 _ _ _ (fun _ _ => Nat.zero_le _) (by kernel_rfl) (fun j hj => by unfold rk2; rw [if_neg (by omega), if_neg (by omega)]) (by decide) ?_
      simp only [List.take_succ_cons, List.take_zero, List.drop_succ_cons, List.drop_zero]
      iterate 5 (go_big_quiet_want; go_big_quiet_op; first | go_big_quiet_on | (refine ⟨_, fun _ _ => rfl, ?_⟩; go_big_quiet_on))
      refine wpQuiet_nil ?_
      intro w6 hz
      obtain ⟨hv6, hb56⟩ := hend.out _ (by rw [← hC.out]; exact hz)
      have hb6 := b45.out w6 hb56
      have hq6 := kq.out w6 hb56
      have hvr := kVr.out w6 hb6
      clear hz
      replace hv6 := Lib.hid hv6
      replace hb56 := Lib.hid hb56
      replace hb6 := Lib.hid hb6
      replace hq6 := Lib.hid hq6
      replace hvr := Lib.hid hvr
      clear f1 f2 c0 c1 h0 hC hend g1 g2
      by_cases h3 : pl < 3
      · have e : verP p = (0, 11) := by unfold verP; rw [if_pos (.inl (by rw [← hpe.out]; exact h3))]
        have d3 : decide ((pl : Int) < 3) = true := decide_eq_true (by omega)
        replace hvr := hvr.out
        rw [e] at hvr
        replace hvr := Lib.hid hvr
        replace e := Lib.hid e
        go_wp2_with fail
        refine hvr.out.mono ?_
        rintro e w7 ⟨rfl, hb67⟩
        have hb7 := hb6.out.trans (hb67.mono hb6.out.size)
        have q3 := kS.out qa qc s2 p2 w7 (hq6.out.kept hb67) (hv6.out.kept hb67)
        replace q3 := Lib.hid q3
        replace hb7 := Lib.hid hb7
        have dE : ((E : Int) == (E : Int)) = true := by simp
        go_wp2_with fail
        refine q3.out.mono ?_
        rintro e w8 ⟨rfl, hb78⟩
        have hb8 := hb7.out.trans (hb78.mono hb7.out.size)
        have hff := hb4.out.trans (hb8.mono hb4.out.size)
        replace hff := Lib.hid hff
        clear hb78 hb8 q3
        go_wp2_with fail
        go_ret
        exact ⟨rfl, hff.out⟩
      · have d3 : decide ((pl : Int) < 3) = false := decide_eq_false (by omega)
        obtain ⟨bl, ol, rfl, e0⟩ := hcell.out w6 hb6.out 0 (by omega)
        have hp3 : 3 ≤ p.length := by rw [← hpe.out]; omega
        have hy0 := hp (p.getD 0 0) (List.mem_of_getElem? (get_lt 0 (by omega)))
        have hy1 := hp (p.getD 1 0) (List.mem_of_getElem? (get_lt 0 (by omega)))
        have cc0 : ∀ wx, Below w6.heap.size w6 wx → wx.cell? ⟨bl, ol, none⟩ = some (.int .u8 ((p.getD 0 0 : Nat) : Int)) := by
          intro wx hx
          obtain ⟨b', o', e', h⟩ := hcell.out wx (hb6.out.trans (hx.mono hb6.out.size)) 0 (by omega)
          simp only [Option.some.injEq, Addr.mk.injEq, and_true] at e'
          obtain ⟨rfl, rfl⟩ := e'
          rw [Nat.add_zero] at h
          exact h
        have cc1 : ∀ wx, Below w6.heap.size w6 wx → wx.cell? ⟨bl, ol + 1, none⟩ = some (.int .u8 ((p.getD 1 0 : Nat) : Int)) := by
          intro wx hx
          obtain ⟨b', o', e', h⟩ := hcell.out wx (hb6.out.trans (hx.mono hb6.out.size)) 1 (by omega)
          simp only [Option.some.injEq, Addr.mk.injEq, and_true] at e'
          obtain ⟨rfl, rfl⟩ := e'
          exact h
        have hver : verP p = if p.getD 0 0 = 0 ∧ p.getD 1 0 = 0 then (0, 11) else ((p.getD 0 0 : Int) + 256 * (p.getD 1 0 : Int), 0) := by
          unfold verP
          by_cases h : p.getD 0 0 = 0 ∧ p.getD 1 0 = 0
          · rw [if_pos (.inr h), if_pos h]
          · rw [if_neg (fun h1 => h1.elim (fun h2 => by omega) h), if_neg h]
        replace hvr := hvr.out
        rw [hver] at hvr
        generalize p.getD 0 0 = y0 at *
        generalize p.getD 1 0 = y1 at *
        have r0 : 0 < pl := by omega
        have r1 : 1 < pl := by omega
        have r2 : (0 : Int) < pl := by omega
        have r3 : (1 : Int) < pl := by omega
        clear e0
        by_cases hz : y0 = 0 ∧ y1 = 0
        · obtain ⟨rfl, rfl⟩ := hz
          rw [if_pos ⟨rfl, rfl⟩] at hvr
          replace hvr := Lib.hid hvr
          replace hver := Lib.hid hver
          replace cc0 := Lib.hid cc0
          replace cc1 := Lib.hid cc1
          go_wp2_with fail
          refine hvr.out.mono ?_
          rintro e w7 ⟨rfl, hb67⟩
          have hb7 := hb6.out.trans (hb67.mono hb6.out.size)
          have hq7 := hq6.out.kept hb67
          have hv7 := hv6.out.kept hb67
          have q3 := kS.out qa qc s2 p2 w7 hq7 hv7
          replace q3 := Lib.hid q3
          replace hq7 := Lib.hid hq7
          replace hv7 := Lib.hid hv7
          replace hb7 := Lib.hid hb7
          have x0 := cc0.out w7 hb67
          have x1 := cc1.out w7 hb67
          have hc7 : ∀ wx, Below w7.heap.size w7 wx → wx.cell? ⟨bl, ol, none⟩ = _ ∧ wx.cell? ⟨bl, ol + 1, none⟩ = _ := fun wx hx => ⟨cellk hx x0, cellk hx x1⟩
          replace hc7 := Lib.hid hc7
          have dE : ((E : Int) == (E : Int)) = true := by simp
          go_wp2_with fail
          refine q3.out.mono ?_
          rintro e w8 ⟨rfl, hb78⟩
          have hb8 := hb7.out.trans (hb78.mono hb7.out.size)
          have hff := hb4.out.trans (hb8.mono hb4.out.size)
          replace hff := Lib.hid hff
          clear hb78 hb8 q3
          go_wp2_with fail
          go_ret
          exact ⟨rfl, hff.out⟩
        · rw [if_neg hz] at hvr
          replace hvr := Lib.hid hvr
          replace hver := Lib.hid hver
          replace cc0 := Lib.hid cc0
          replace cc1 := Lib.hid cc1
          have hmul : IntKind.i64.wrap (IntKind.i64.wrap (y0 : Int) + IntKind.i64.wrap (256 * IntKind.i64.wrap (y1 : Int))) = (y0 : Int) + 256 * (y1 : Int) := by
            rw [IntWalk.i64_in (y0 : Int) (by omega), IntWalk.i64_in (y1 : Int) (by omega), IntWalk.i64_in (256 * (y1 : Int)) (by omega), IntWalk.i64_in ((y0 : Int) + 256 * (y1 : Int)) (by omega)]
          by_cases hz0 : y0 = 0
          · have hz1 : ¬ y1 = 0 := fun h => hz ⟨hz0, h⟩
            have g0 : ((y0 : Int) == 0) = true := by rw [hz0]; rfl
            have g1 : ((y1 : Int) == 0) = false := by rw [beq_eq_false_iff_ne]; omega
            replace hz := Lib.hid hz
            replace hz0 := Lib.hid hz0
            replace hz1 := Lib.hid hz1
            replace hmul := Lib.hid hmul
            go_wp2_with fail
            refine hvr.out.mono ?_
            rintro e w7 ⟨rfl, hb67⟩
            have hb7 := hb6.out.trans (hb67.mono hb6.out.size)
            have hq7 := hq6.out.kept hb67
            have hv7 := hv6.out.kept hb67
            have q3 := kS.out qa qc s2 p2 w7 hq7 hv7
            replace q3 := Lib.hid q3
            replace hq7 := Lib.hid hq7
            replace hv7 := Lib.hid hv7
            replace hb7 := Lib.hid hb7
            have x0 := cc0.out w7 hb67
            have x1 := cc1.out w7 hb67
            have hc7 : ∀ wx, Below w7.heap.size w7 wx → wx.cell? ⟨bl, ol, none⟩ = _ ∧ wx.cell? ⟨bl, ol + 1, none⟩ = _ := fun wx hx => ⟨cellk hx x0, cellk hx x1⟩
            replace hc7 := Lib.hid hc7
            go_upto_region 10 with fail
            refine wp_region_quietC (C := fun w' => Below w7.heap.size w7 w') (by kernel_rfl) (by kernel_rfl) (below_drew (Below.refl _ _)) ?_
            iterate 6 (go_big_quiet_want; go_big_quiet_op; first | go_big_quiet_on | (refine ⟨_, fun _ _ => rfl, ?_⟩; go_big_quiet_on))
            go_big_quiet_want; go_big_quiet_op
            refine ⟨.int .u8 (y0 : Int), fun wx hx => by simp [go_sem, (hc7.out wx hx).1], ?_⟩
            go_big_quiet_on
            iterate 3 (go_big_quiet_want; go_big_quiet_op; first | go_big_quiet_on | (refine ⟨_, fun _ _ => rfl, ?_⟩; go_big_quiet_on))
            go_big_quiet_want; go_big_quiet_op
            refine ⟨.int .u8 (y1 : Int), fun wx hx => by simp [go_sem, (hc7.out wx hx).2], ?_⟩
            go_big_quiet_on
            iterate 3 (go_big_quiet_want; go_big_quiet_op; first | go_big_quiet_on | (refine ⟨_, fun _ _ => rfl, ?_⟩; go_big_quiet_on))
            go_big_quiet_want; go_big_quiet_op
            refine ⟨.bool false, fun wx hx => by simp [go_sem, hmul.out], ?_⟩
            go_big_quiet_on
            iterate 1 (go_big_quiet_want; go_big_quiet_op; first | go_big_quiet_on | (refine ⟨_, fun _ _ => rfl, ?_⟩; go_big_quiet_on))
            refine wpQuiet_nil ?_
            intro w' hw'
            have hb7' := hb7.out.trans (Below.mono hw' hb7.out.size)
            have q3' := kS.out qa qc s2 p2 w' (hq7.out.kept hw') (hv7.out.kept hw')
            clear q3 hb7
            have q3 := Lib.hid q3'
            have hb7 := Lib.hid hb7'
            clear q3' hb7' hw' hc7 x0 x1
            have dE : ((E : Int) == (E : Int)) = true := by simp
            go_wp2_with fail
            refine q3.out.mono ?_
            rintro e w8 ⟨rfl, hb78⟩
            have hb8 := hb7.out.trans (hb78.mono hb7.out.size)
            have hff := hb4.out.trans (hb8.mono hb4.out.size)
            replace hff := Lib.hid hff
            clear hb78 hb8 q3
            go_wp2_with fail
            go_ret
            exact ⟨rfl, hff.out⟩
          · have g0 : ((y0 : Int) == 0) = false := by rw [beq_eq_false_iff_ne]; omega
            replace hz := Lib.hid hz
            replace hz0 := Lib.hid hz0
            replace hmul := Lib.hid hmul
            go_wp2_with fail
            refine hvr.out.mono ?_
            rintro e w7 ⟨rfl, hb67⟩
            have hb7 := hb6.out.trans (hb67.mono hb6.out.size)
            have hq7 := hq6.out.kept hb67
            have hv7 := hv6.out.kept hb67
            have q3 := kS.out qa qc s2 p2 w7 hq7 hv7
            replace q3 := Lib.hid q3
            replace hq7 := Lib.hid hq7
            replace hv7 := Lib.hid hv7
            replace hb7 := Lib.hid hb7
            have x0 := cc0.out w7 hb67
            have x1 := cc1.out w7 hb67
            have hc7 : ∀ wx, Below w7.heap.size w7 wx → wx.cell? ⟨bl, ol, none⟩ = _ ∧ wx.cell? ⟨bl, ol + 1, none⟩ = _ := fun wx hx => ⟨cellk hx x0, cellk hx x1⟩
            replace hc7 := Lib.hid hc7
            go_upto_region 10 with fail
            refine wp_region_quietC (C := fun w' => Below w7.heap.size w7 w') (by kernel_rfl) (by kernel_rfl) (below_drew (Below.refl _ _)) ?_
            iterate 6 (go_big_quiet_want; go_big_quiet_op; first | go_big_quiet_on | (refine ⟨_, fun _ _ => rfl, ?_⟩; go_big_quiet_on))
            go_big_quiet_want; go_big_quiet_op
            refine ⟨.int .u8 (y0 : Int), fun wx hx => by simp [go_sem, (hc7.out wx hx).1], ?_⟩
            go_big_quiet_on
            iterate 3 (go_big_quiet_want; go_big_quiet_op; first | go_big_quiet_on | (refine ⟨_, fun _ _ => rfl, ?_⟩; go_big_quiet_on))
            go_big_quiet_want; go_big_quiet_op
            refine ⟨.int .u8 (y1 : Int), fun wx hx => by simp [go_sem, (hc7.out wx hx).2], ?_⟩
            go_big_quiet_on
            iterate 3 (go_big_quiet_want; go_big_quiet_op; first | go_big_quiet_on | (refine ⟨_, fun _ _ => rfl, ?_⟩; go_big_quiet_on))
            go_big_quiet_want; go_big_quiet_op
            refine ⟨.bool false, fun wx hx => by simp [go_sem, hmul.out], ?_⟩
            go_big_quiet_on
            iterate 1 (go_big_quiet_want; go_big_quiet_op; first | go_big_quiet_on | (refine ⟨_, fun _ _ => rfl, ?_⟩; go_big_quiet_on))
            refine wpQuiet_nil ?_
            intro w' hw'
            have hb7' := hb7.out.trans (Below.mono hw' hb7.out.size)
            have q3' := kS.out qa qc s2 p2 w' (hq7.out.kept hw') (hv7.out.kept hw')
            clear q3 hb7
            have q3 := Lib.hid q3'
            have hb7 := Lib.hid hb7'
            clear q3' hb7' hw' hc7 x0 x1
            have dE : ((E : Int) == (E : Int)) = true := by simp
            go_wp2_with fail
            refine q3.out.mono ?_
            rintro e w8 ⟨rfl, hb78⟩
            have hb8 := hb7.out.trans (hb78.mono hb7.out.size)
            have hff := hb4.out.trans (hb8.mono hb4.out.size)
            replace hff := Lib.hid hff
            clear hb78 hb8 q3
            go_wp2_with fail
            go_ret
            exact ⟨rfl, hff.out⟩
end Go.Proofs.YtpjbcadelmjmfaaGreatDoor
