/- The law's Same. -/
import Derived.Test.YtikjpklbbjmioaaF2
import Derived.LaidEqlPtr
namespace Go.Proofs.Ytikjpklbbjmioaa
open Go.RowKit Go.Maps
variable {w : World} {F : Own} {o h T : Nat} {R : Dv}

def Qc (w : World) (f : Nat) (args : Array Value) (v : Value) : Prop := ∀ n, Calls Try.prog f args (w.drewN n) fun e w' => e = .returned v ∧ ∃ m, w' = w.drewN m
theorem qc_of {w : World} {f : Nat} {args : Array Value} {v : Value} (h : ∀ n, Calls Try.prog f args (w.drewN n) fun e w' => e = .returned v ∧ w.drewN n = w') : Qc w f args v :=
  fun n => (h n).mono fun _ _ ⟨a, b⟩ => ⟨a, n, b.symm⟩
/-- A call that returns a slice of bytes of this text. -/
def SPost (w : World) (s : ByteArray) (e : Ending) (w' : World) : Prop := ∃ v, e = .returned v ∧ Str w' v s ∧ Below w.heap.size w w'
theorem BytesPost.s {w : World} {ws : List Nat} {e : Ending} {w' : World} (h : BytesPost w (bytesL ws) e w') : SPost w (strOf (bytesL ws)) e w' := by
  obtain ⟨b, h1, h2, h3, _⟩ := h
  exact ⟨_, h1, h2.str (bytesL_256 _) _, h3⟩
theorem NewBytes.s {w : World} {ws : List Nat} {e : Ending} {w' : World} (h : NewBytes w (bytesL ws) e w') (hn : 0 < ws.length) : SPost w (strOf (bytesL ws)) e w' := by
  obtain ⟨a, c, h1, h2⟩ := h
  exact ⟨_, h1, h2.str (bytesL_256 _) (by rw [bytesL_len]; omega), h2.b⟩
theorem Fr.drew {B : Nat} {w w' : World} (h : Below B w w') : Below B w w'.drew := below_drewN h 1
theorem Fr.step {w w1 w2 : World} (h : Below w.heap.size w w1) (h' : Below w1.heap.size w1 w2) : Below w.heap.size w w2 := h.trans (h'.mono h.size)

theorem run_neq_ptr_same {P : Program} (w : World) {tp te : TypeId} {j : TypeInfo} (a : Addr) (hp : P.underlying tp = some (.pointer te)) (hte : P.info? te = some j) :
    (binOp .neq tp (.pointer (some a)) (.pointer (some a))).run P w = .ok (.bool false) w := by
  have h : ∀ d : Nat, (Op.equalIn (d + 1) tp (.pointer (some a)) (.pointer (some a))).run P w = .ok true w := fun d => by
    simp [Op.equalIn, run_underlying hp, sizeOf, typeInfo, hte, run_sameAddr_same]
  simp only [binOp]
  simp [Op.equal, Op.maxDepth, h 9999]
theorem infoThrEx : (Try.prog.info? 97).isSome = true := by kernel_rfl
theorem neq_thr (w : World) (a : Addr) : (binOp .neq 28 (.pointer (some a)) (.pointer (some a))).run Try.prog w = .ok (.bool false) w := by
  obtain ⟨j, hj⟩ := Option.isSome_iff_exists.1 infoThrEx
  exact run_neq_ptr_same w a Try.underlying28 hj
theorem index_ae0 (x0 x1 x2 x3 x4 x5 x6 x7 : Value) (w : World) : (Instr.index 108 (.agg #[x0, x1, x2, x3, x4, x5, x6, x7]) (.int .i64 0)).run Try.prog w = .ok x0 w := by kernel_rfl
theorem index_ae1 (x0 x1 x2 x3 x4 x5 x6 x7 : Value) (w : World) : (Instr.index 108 (.agg #[x0, x1, x2, x3, x4, x5, x6, x7]) (.int .i64 1)).run Try.prog w = .ok x1 w := by kernel_rfl
theorem index_ae2 (x0 x1 x2 x3 x4 x5 x6 x7 : Value) (w : World) : (Instr.index 108 (.agg #[x0, x1, x2, x3, x4, x5, x6, x7]) (.int .i64 2)).run Try.prog w = .ok x2 w := by kernel_rfl
theorem index_ae3 (x0 x1 x2 x3 x4 x5 x6 x7 : Value) (w : World) : (Instr.index 108 (.agg #[x0, x1, x2, x3, x4, x5, x6, x7]) (.int .i64 3)).run Try.prog w = .ok x3 w := by kernel_rfl
theorem index_ae4 (x0 x1 x2 x3 x4 x5 x6 x7 : Value) (w : World) : (Instr.index 108 (.agg #[x0, x1, x2, x3, x4, x5, x6, x7]) (.int .i64 4)).run Try.prog w = .ok x4 w := by kernel_rfl
theorem index_ae5 (x0 x1 x2 x3 x4 x5 x6 x7 : Value) (w : World) : (Instr.index 108 (.agg #[x0, x1, x2, x3, x4, x5, x6, x7]) (.int .i64 5)).run Try.prog w = .ok x5 w := by kernel_rfl
theorem index_ae6 (x0 x1 x2 x3 x4 x5 x6 x7 : Value) (w : World) : (Instr.index 108 (.agg #[x0, x1, x2, x3, x4, x5, x6, x7]) (.int .i64 6)).run Try.prog w = .ok x6 w := by kernel_rfl
theorem index_ae7 (x0 x1 x2 x3 x4 x5 x6 x7 : Value) (w : World) : (Instr.index 108 (.agg #[x0, x1, x2, x3, x4, x5, x6, x7]) (.int .i64 7)).run Try.prog w = .ok x7 w := by kernel_rfl
def aggE (es : List Nat) : Value := .agg #[.int .i64 ((wat es 0 : Nat) : Int), .int .i64 ((wat es 1 : Nat) : Int), .int .i64 ((wat es 2 : Nat) : Int), .int .i64 ((wat es 3 : Nat) : Int), .int .i64 ((wat es 4 : Nat) : Int), .int .i64 ((wat es 5 : Nat) : Int), .int .i64 ((wat es 6 : Nat) : Int), .int .i64 ((wat es 7 : Nat) : Int)]
theorem index_aggE (es : List Nat) (j : Nat) (hj : j < 8) (w : World) : (Instr.index 108 (aggE es) (.int .i64 (j : Int))).run Try.prog w = .ok (.int .i64 ((wat es j : Nat) : Int)) w := by
  match j, hj with
  | 0, _ => exact index_ae0 _ _ _ _ _ _ _ _ w
  | 1, _ => exact index_ae1 _ _ _ _ _ _ _ _ w
  | 2, _ => exact index_ae2 _ _ _ _ _ _ _ _ w
  | 3, _ => exact index_ae3 _ _ _ _ _ _ _ _ w
  | 4, _ => exact index_ae4 _ _ _ _ _ _ _ _ w
  | 5, _ => exact index_ae5 _ _ _ _ _ _ _ _ w
  | 6, _ => exact index_ae6 _ _ _ _ _ _ _ _ w
  | 7, _ => exact index_ae7 _ _ _ _ _ _ _ _ w

set_option maxHeartbeats 8000000 in
set_option maxRecDepth 100000 in
theorem same_any {o' T' : Nat} {L : Lay} (h1 : DevSt w F o L T R) (h2 : RefSt w F o' h T' R) : Calls Try.prog 30 #[.pointer (some ⟨L.g, 0, none⟩), .pointer (some ⟨h, 0, none⟩)] w fun e w' => e = .returned (.bool true) ∧ Below w.heap.size w w' := by
  have hn2 := h1.ok.n2
  have hn1 := h1.ok.n1
  have hok := h1.ok
  have qOff : Qc w 62 _ _ := qc_of fun n => off_any (h1.drewN n)
  have qExe : Qc w 63 _ _ := qc_of fun n => executed_any (h1.drewN n)
  have qLin : Qc w 41 _ _ := qc_of fun n => lines_any (h1.drewN n)
  have qSiz : Qc w 64 _ _ := qc_of fun n => size_any (h1.drewN n)
  have sCur : ∀ wx, Below w.heap.size w wx → Calls Try.prog 65 #[.pointer (some ⟨L.g, 0, none⟩)] wx (SPost wx (strOf (bytesL R.curW))) := fun wx hB => (current_any (h1.below hB)).mono fun _ _ x => x.s
  have sRCur : ∀ wx, Below w.heap.size w wx → Calls Try.prog 66 #[.pointer (some ⟨h, 0, none⟩)] wx (SPost wx (strOf (bytesL R.curW))) := fun wx hB => (rcurrent_any (h2.below hB)).mono fun _ _ x => x.s (by rw [hok.curLen]; omega)
  have sPer : ∀ wx, Below w.heap.size w wx → Calls Try.prog 67 #[.pointer (some ⟨L.g, 0, none⟩)] wx (SPost wx (strOf (bytesL R.perW))) := fun wx hB => (persisted_any (h1.below hB)).mono fun _ _ x => x.s
  have sRPer : ∀ wx, Below w.heap.size w wx → Calls Try.prog 55 #[.pointer (some ⟨h, 0, none⟩), .slice none 0 0] wx (SPost wx (strOf (bytesL R.perW))) := fun wx hB => by
    have := rcontent_any (h2.below hB) none 0 [] (Rd.nil _) (fun l _ => by unfold kOf; simp) (by simp)
    rw [kOf_nil] at this
    exact this.mono fun _ _ x => x.s (by rw [hok.perLen]; omega)
  obtain ⟨lb, lc, ns, h3, h4, h5, _⟩ := h2.ex
  have d0 := h3.cell (refCells_lines lb lc ns R)
  have d18 := h3.cell (refCells_off lb lc ns R)
  have d19 := h3.cell (o := 19) rfl
  generalize strOf (bytesL R.curW) = sc at *
  generalize strOf (bytesL R.perW) = sp at *
  have hDy : ∀ wx, Below w.heap.size w wx → Calls Try.prog 68 #[.pointer (some ⟨L.g, 0, none⟩)] wx (NewNats wx (dirtyL R)) := fun wx hB => dirty_any (h1.below hB)
  have hRDy : ∀ wx, Below w.heap.size w wx → Calls Try.prog 57 #[.pointer (some ⟨h, 0, none⟩)] wx (NewNats wx (dirtyL R)) := fun wx hB => rdirty_any (h2.below hB)
  have hHis : ∀ wx, Below w.heap.size w wx → ∀ k, k < R.lines.length → Calls Try.prog 42 #[.pointer (some ⟨L.g, 0, none⟩), .int .i64 (k : Int)] wx (ClonePost wx 144 2 (R.line k).hist.length (wcells (R.line k).hist)) := fun wx hB k hk => history_any (h1.below hB) hk
  have hlt3 := h3.lt
  have hlb : lb < w.heap.size := by obtain ⟨cs, _, x, _⟩ := h4; exact ownsRow_lt x (k := lb) rfl
  have hRef : ∀ wx, Below w.heap.size w wx → Has wx h (refCells lb lc ns R) 110 := fun wx hB => h3.only (Only.of_below hB) (Nat.not_le.2 hlt3)
  have hRow : ∀ wx, Below w.heap.size w wx → ∀ k, k < R.lines.length → ∃ va vc, LineCells wx lb k (R.line k) (.slice va (R.line k).hist.length vc) ∧ Rd wx (.slice va (R.line k).hist.length vc) (R.line k).hist.length (wcells (R.line k).hist) := by
    intro wx hB k hk
    obtain ⟨va, vc, x1, x2⟩ := h4.cells hk
    exact ⟨va, vc, x1.only (Only.of_below hB) (Nat.not_le.2 hlb), x2.1.kept hB⟩
  have hLn : ∀ k, k < R.lines.length → (R.line k).hist.length ≤ 100000 := fun k hk => by have := (h1.ok.ln k hk).hl; have := h1.ok.t; omega
  have hThr1 := fun (wx : World) (hB : Below w.heap.size w wx) (t : Nat) (ht : t < 8) => thread_in (h1.below hB) ht
  have hErr := fun (wx : World) (hB : Below w.heap.size w wx) (t : Nat) (ht : t < 8) => err_any (h1.below hB) ht
  have hId := fun (wx : World) (hB : Below w.heap.size w wx) (t : Nat) (ht : t < 8) => id_any (h1.below hB) ht
  have hTs := fun (wx : World) (hB : Below w.heap.size w wx) (t : Nat) (ht : t < 8) => tsize_any (h1.below hB) ht
  have hSz := fun (wx : World) (hB : Below w.heap.size w wx) => size_any (h1.below hB)
  replace hHis := Lib.hid hHis
  replace hRef := Lib.hid hRef
  replace hRow := Lib.hid hRow
  replace hLn := Lib.hid hLn
  replace hThr1 := Lib.hid hThr1
  replace hErr := Lib.hid hErr
  replace hId := Lib.hid hId
  replace hTs := Lib.hid hTs
  replace hSz := Lib.hid hSz
  replace hDy := Lib.hid hDy
  replace hRDy := Lib.hid hRDy
  replace qOff := Lib.hid qOff
  replace qExe := Lib.hid qExe
  replace qLin := Lib.hid qLin
  replace qSiz := Lib.hid qSiz
  replace sCur := Lib.hid sCur
  replace sRCur := Lib.hid sRCur
  replace sPer := Lib.hid sPer
  replace sRPer := Lib.hid sRPer
  replace hok := Lib.hid hok
  replace h1 := Lib.hid h1
  replace h2 := Lib.hid h2
  clear h3 h4
  go_enter Try.func30, Try.ntmps30
  go_wp2_with fail
  go_quiet ((first | (go_at_call 62; exact qOff.out _) | (go_at_call 63; exact qExe.out _) | (go_at_call 41; exact qLin.out _) | (go_at_call 64; exact qSiz.out _)))
  go_wp2_with fail
  have hB0 : Below w.heap.size w (w.drewN nq) := below_drewN (Below.refl _ _) nq
  clear qOff qExe qLin qSiz d0 d18 d19
  generalize w.drewN nq = wq at *
  go_cut [70] (fun v wx => v = .bool false ∧ Below w.heap.size w wx)
  case first =>
    go_region_with ((first
      | (go_at_call 65; refine (sCur.out _ (by first | exact hB0 | exact hB0.drew)).mono ?_; rintro e wa ⟨va, rfl, sA, bA⟩; have kA : Below w.heap.size w wa := (by first | exact Fr.step hB0 bA | exact Fr.step (Fr.drew hB0) bA); have cA := sA _ (Below.refl _ _); have cAd := sA _ (Fr.drew (Below.refl _ _)))
      | (go_at_call 66; refine (sRCur.out _ (by first | exact kA | exact Fr.drew kA)).mono ?_; rintro e wb ⟨vb, rfl, sB, bB⟩; have kB : Below w.heap.size w wb := (by first | exact Fr.step kA bB | exact Fr.step (Fr.drew kA) bB); have sA2 := (by first | exact sA.up bB | exact (sA.up (Fr.drew (Below.refl _ _))).up bB); have cB := sB _ (Below.refl _ _); have cBd := sB _ (Fr.drew (Below.refl _ _)); have cA2 := sA2 _ (Below.refl _ _); have cA2d := sA2 _ (Fr.drew (Below.refl _ _)); clear sA sA2 sB)
      | (go_at_call 67; refine (sPer.out _ (by first | exact kB | exact Fr.drew kB)).mono ?_; rintro e wc ⟨vc, rfl, sA, bA⟩; have kC : Below w.heap.size w wc := (by first | exact Fr.step kB bA | exact Fr.step (Fr.drew kB) bA); have cC := sA _ (Below.refl _ _); have cCd := sA _ (Fr.drew (Below.refl _ _)))
      | (go_at_call 55; refine (sRPer.out _ (by first | exact kC | exact Fr.drew kC)).mono ?_; rintro e wd ⟨vd, rfl, sB, bB⟩; have kD : Below w.heap.size w wd := (by first | exact Fr.step kC bB | exact Fr.step (Fr.drew kC) bB); have sA2 := (by first | exact sA.up bB | exact (sA.up (Fr.drew (Below.refl _ _))).up bB); have cD := sB _ (Below.refl _ _); have cDd := sB _ (Fr.drew (Below.refl _ _)); have cC2 := sA2 _ (Below.refl _ _); have cC2d := sA2 _ (Fr.drew (Below.refl _ _)))))
    all_goals
      have kE : Below w.heap.size w wd := kD
      clear sA sB sA2 bA bB
      go_wp2_with fail
      go_meet
      exact ⟨rfl, kE⟩
  case rest =>
    obtain ⟨rfl, kX⟩ := hcut
    clear hB0 sCur sRCur sPer sRPer
    go_wp2_with fail
    refine (hDy.out _ kX).mono ?_
    rintro e w1 ⟨a1, c1, rfl, own1, B1, _⟩
    have k1 := Fr.step kX B1
    have r1 := Rd.of_own own1
    clear own1
    go_wp2_with fail
    refine (hRDy.out _ k1).mono ?_
    rintro e w2 ⟨a2, c2, rfl, own2, B2, _⟩
    have k2 := Fr.step k1 B2
    have r1 := r1.kept B2
    have r2 := Rd.of_own own2
    have hdl : (dirtyL R).length ≤ R.lines.length := dirtyTo_len R R.lines.length
    clear own2 hDy hRDy B1 B2 kX k1
    go_wp2_with fail
    go_loopw [82] (fun i wr => ∃ k : Nat, k ≤ (dirtyL R).length ∧ i = .int .i64 k ∧ ∃ m, w2.drewN m = wr) (fun i _ => (dirtyL R).length - (intOf i).toNat)
    case atStart => exact ⟨0, Nat.zero_le _, rfl, 0, rfl⟩
    case round =>
      obtain ⟨k, hk, rfl, m, hm⟩ := hrel
      by_cases hlt : k < (dirtyL R).length
      · have hkI : (k : Int) < ((dirtyL R).length : Int) := by omega
        have hk0 : (0 : Int) ≤ (k : Int) := by omega
        have hA := r1.drewN m
        have hB := r2.drewN m
        rw [hm] at hA hB
        replace hm := Lib.hid hm
        have hat := get_of_lt 0 hlt
        generalize (dirtyL R).getD k 0 = p at *
        obtain ⟨bl, ol, cl, ea, fa⟩ := hA.cells (by omega)
        simp only [Value.slice.injEq, true_and] at ea
        obtain ⟨rfl, e1⟩ := ea
        replace e1 := Lib.hid e1
        obtain ⟨bm, om, cm, eb, fb⟩ := hB.cells (by omega)
        simp only [Value.slice.injEq, true_and] at eb
        obtain ⟨rfl, e2⟩ := eb
        replace e2 := Lib.hid e2
        have c0 : wr.cell? ⟨bl, ol + k, none⟩ = _ := fa _ _ (nats_get _ k _ hat)
        have c1 : wr.cell? ⟨bm, om + k, none⟩ = _ := fb _ _ (nats_get _ k _ hat)
        replace hat := Lib.hid hat
        clear fa fb r1 r2 hA hB
        go_wp2_with fail
        go_quiet (fail)
        go_wp2_with fail
        exact ⟨⟨k + 1, by omega, by go_num, m + nq, by rw [← hm.out]; simp⟩, by simp [intOf]; omega⟩
      · obtain rfl : k = (dirtyL R).length := by omega
        have k3 : Below w.heap.size w wr := by rw [← hm]; exact below_drewN k2 m
        clear r1 r2 hm k2
        have d0 := (hRef.out _ k3).cell (refCells_lines lb lc ns R)
        go_wp2_with fail
        clear d0
        go_loopw [100] (fun i wx => ∃ k : Nat, k ≤ R.lines.length ∧ i = .int .i64 k ∧ Below w.heap.size w wx) (fun i _ => R.lines.length - (intOf i).toNat)
        case atStart => exact ⟨0, Nat.zero_le _, rfl, k3⟩
        case round =>
          clear k3
          obtain ⟨k, hk, rfl, k3⟩ := hrel
          by_cases hlt : k < R.lines.length
          · have hkI : (k : Int) < (R.lines.length : Int) := by omega
            have hk0 : (0 : Int) ≤ (k : Int) := by omega
            obtain ⟨va, vc, hlc, hrd⟩ := hRow.out _ k3 k hlt
            obtain ⟨c0, c1, c2, c3, c4, c5, c6, c7, c8, c9⟩ := hlc
            have hl1 := hLn.out k hlt
            have hHi := fun wx hB => hHis.out wx hB k hlt
            generalize R.line k = l at *
            replace hHi := Lib.hid hHi
            have hNew := Has.new wr [.int .u64 ((wat l.base 0 : Nat) : Int), .int .u64 ((wat l.base 1 : Nat) : Int), .int .u64 ((wat l.base 2 : Nat) : Int), .int .u64 ((wat l.base 3 : Nat) : Int), .int .u64 ((wat l.base 4 : Nat) : Int), .int .u64 ((wat l.base 5 : Nat) : Int), .int .u64 ((wat l.base 6 : Nat) : Int), .int .u64 ((wat l.base 7 : Nat) : Int), .slice va l.hist.length vc, .int .i64 (l.done : Int)] 122
            have b8 := hNew.cell (o := 8) rfl
            have hltA := hNew.lt
            have kA := k3.alloc k3.size (.cells #[.int .u64 ((wat l.base 0 : Nat) : Int), .int .u64 ((wat l.base 1 : Nat) : Int), .int .u64 ((wat l.base 2 : Nat) : Int), .int .u64 ((wat l.base 3 : Nat) : Int), .int .u64 ((wat l.base 4 : Nat) : Int), .int .u64 ((wat l.base 5 : Nat) : Int), .int .u64 ((wat l.base 6 : Nat) : Int), .int .u64 ((wat l.base 7 : Nat) : Int), .slice va l.hist.length vc, .int .i64 (l.done : Int)] 122)
            have rA := hrd.kept ((Below.refl wr.heap.size wr).alloc (Nat.le_refl _) (.cells #[.int .u64 ((wat l.base 0 : Nat) : Int), .int .u64 ((wat l.base 1 : Nat) : Int), .int .u64 ((wat l.base 2 : Nat) : Int), .int .u64 ((wat l.base 3 : Nat) : Int), .int .u64 ((wat l.base 4 : Nat) : Int), .int .u64 ((wat l.base 5 : Nat) : Int), .int .u64 ((wat l.base 6 : Nat) : Int), .int .u64 ((wat l.base 7 : Nat) : Int), .slice va l.hist.length vc, .int .i64 (l.done : Int)] 122))
            clear hrd hNew
            go_wp2_with fail
            go_region_with ((first
              | (go_at_call 42; refine (hHi.out _ (by first | exact kA | exact Fr.drew kA)).mono ?_; rintro e wa ⟨ha, hc, rfl, ownH, bH, _⟩; have kH : Below w.heap.size w wa := (by first | exact Fr.step kA bH | exact Fr.step (Fr.drew kA) bH); have rH := Rd.of_own ownH; have rR := (by first | exact rA.kept bH | exact (rA.drewN 1).kept bH); have b8a : wa.cell? ⟨wr.heap.size, 8, none⟩ = _ := (Only.of_below bH).cell b8 (Nat.not_le.2 hltA))
              | (go_at_call 69; refine (samew_any _ l.hist _ _ _ _ hl1 (by first | exact rH | exact rH.drewN 1) (by first | exact rR | exact rR.drewN 1)).mono ?_; rintro e wb ⟨rfl, m2, hm2⟩; have kS : Below w.heap.size w wb := (by rw [← hm2]; first | exact below_drewN kH m2 | exact below_drewN (Fr.drew kH) m2); clear hm2)))
            all_goals
              clear rH rR b8a ownH bH rA b8 kA
              go_wp2_with fail
              exact ⟨⟨k + 1, by omega, by go_num, kS⟩, by simp [intOf]; omega⟩
          · obtain rfl : k = R.lines.length := by omega
            have hE := hRef.out _ k3
            have d9 : wr.cell? ⟨h, 9, none⟩ = some (.int .i64 ((wat R.errs 0 : Nat) : Int)) := hE.cell (o := 9) rfl
            have d10 : wr.cell? ⟨h, 10, none⟩ = some (.int .i64 ((wat R.errs 1 : Nat) : Int)) := hE.cell (o := 10) rfl
            have d11 : wr.cell? ⟨h, 11, none⟩ = some (.int .i64 ((wat R.errs 2 : Nat) : Int)) := hE.cell (o := 11) rfl
            have d12 : wr.cell? ⟨h, 12, none⟩ = some (.int .i64 ((wat R.errs 3 : Nat) : Int)) := hE.cell (o := 12) rfl
            have d13 : wr.cell? ⟨h, 13, none⟩ = some (.int .i64 ((wat R.errs 4 : Nat) : Int)) := hE.cell (o := 13) rfl
            have d14 : wr.cell? ⟨h, 14, none⟩ = some (.int .i64 ((wat R.errs 5 : Nat) : Int)) := hE.cell (o := 14) rfl
            have d15 : wr.cell? ⟨h, 15, none⟩ = some (.int .i64 ((wat R.errs 6 : Nat) : Int)) := hE.cell (o := 15) rfl
            have d16 : wr.cell? ⟨h, 16, none⟩ = some (.int .i64 ((wat R.errs 7 : Nat) : Int)) := hE.cell (o := 16) rfl
            have hix := fun t (ht : t < 8) (w : World) => index_aggE R.errs t ht w
            have hErr' : ∀ wx, Below w.heap.size w wx → ∀ t, t < 8 → Calls Try.prog 70 #[.pointer (some ⟨L.tb t, 0, none⟩)] wx (fun e w' => e = .returned (.int .i64 ((wat R.errs t : Nat) : Int)) ∧ wx = w') := fun wx hB t ht => hErr.out wx hB t ht
            replace hix := Lib.hid hix
            replace hErr' := Lib.hid hErr'
            clear hE
            go_wp2_with fail
            clear d9 d10 d11 d12 d13 d14 d15 d16
            go_loopw [117] (fun i wx => ∃ t : Nat, t ≤ 8 ∧ i = .int .i64 t ∧ Below w.heap.size w wx) (fun i _ => 8 - (intOf i).toNat)
            case atStart => exact ⟨0, by omega, rfl, k3⟩
            case round =>
              clear k3
              obtain ⟨t, ht, rfl, k3⟩ := hrel
              by_cases ht8 : t < 8
              · have em : decide ((t : Int) < 8) = true := by simp; omega
                have hwm : wrap64 ((t : Int) + 1) = (t : Int) + 1 := by unfold wrap64; omega
                have hix1 := fun w => hix.out t ht8 w
                unfold aggE at hix1
                have q1 := hThr1.out _ k3 t ht8
                have hnp := neq_thr wr ⟨L.tb t, 0, none⟩
                have q3 := hErr'.out _ k3 t ht8
                have q4 := hId.out _ k3 t ht8
                have q5 := hTs.out _ k3 t ht8
                have q6 := hSz.out _ k3
                generalize wat R.errs t = x at *
                replace q1 := Lib.hid q1
                replace q3 := Lib.hid q3
                replace q4 := Lib.hid q4
                replace q5 := Lib.hid q5
                replace q6 := Lib.hid q6
                replace hwm := Lib.hid hwm
                replace ht8 := Lib.hid ht8
                replace ht := Lib.hid ht
                go_wp2_with fail
                refine q1.out.mono ?_
                rintro e w' ⟨rfl, rfl⟩
                go_wp2_with fail
                refine q3.out.mono ?_
                rintro e w' ⟨rfl, rfl⟩
                go_wp2_with fail
                refine q4.out.mono ?_
                rintro e w' ⟨rfl, rfl⟩
                go_wp2_with fail
                refine q5.out.mono ?_
                rintro e w' ⟨rfl, rfl⟩
                go_wp2_with fail
                refine q6.out.mono ?_
                rintro e w' ⟨rfl, rfl⟩
                go_wp2_with fail
                refine q1.out.mono ?_
                rintro e w' ⟨rfl, rfl⟩
                go_wp2_with fail
                have := ht8.out
                rw [hwm.out]
                exact ⟨⟨t + 1, by omega, by go_num, k3⟩, by simp [intOf]; omega⟩
              · obtain rfl : t = 8 := by omega
                clear hix hErr'
                go_wp2_with fail
                go_ret
                exact ⟨rfl, k3⟩
end Go.Proofs.Ytikjpklbbjmioaa
