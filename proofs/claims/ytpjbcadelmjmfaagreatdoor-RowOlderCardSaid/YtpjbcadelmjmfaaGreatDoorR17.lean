/- The walk of the law's awake. -/
import Derived.Test.YtpjbcadelmjmfaaGreatDoorR15
import Derived.Test.YtpjbcadelmjmfaaGreatDoorR16
namespace Go.Proofs.YtpjbcadelmjmfaaGreatDoor
open Go.RowKit Go.Lib

/-- string(b), of a slice of bytes that is not empty. -/
theorem conv_rd {w : World} {a : Option Addr} {c : Nat} {l : List Nat} (hr : Rd w (.slice a l.length c) l.length (bcells l)) (hb : ∀ x ∈ l, x < 256) (hn : 0 < l.length) : (convert 34 9 (.slice a l.length c)).run Tryz.prog w = .ok (.string (strOfNats l)) w := by
  obtain ⟨bl, ol, cl, ea, fa⟩ := hr.cells hn
  simp only [Value.slice.injEq, true_and] at ea
  obtain ⟨rfl, rfl⟩ := ea
  have := run_convert_bytes_back (P := Tryz.prog) w 34 9 5 ⟨bl, ol, none⟩ c (bytesOf l) Tryz.underlying34 Tryz.underlying5 Tryz.underlying9 (fun j hj => by
    unfold bytesOf at hj
    rw [List.length_map] at hj
    have hx := hb _ (List.mem_of_getElem? (get_lt 0 hj))
    have h1 := fa _ _ (bcells_get l j hj)
    have e : (⟨bl, ol, none⟩ : Addr).add j = ⟨bl, ol + j, none⟩ := by unfold Addr.add; split <;> simp_all
    rw [e, h1]
    congr 2
    unfold bytesOf
    rw [List.getElem_map]
    have e2 : l[j] = l.getD j 0 := by rw [List.getD, List.getElem?_eq_getElem hj]; rfl
    rw [e2, UInt8.toNat_ofNat']
    omega)
  have e3 : (bytesOf l).length = l.length := by unfold bytesOf; simp
  rw [e3] at this
  exact this
theorem valid_ascii : ∀ l : List UInt8, (∀ c ∈ l, c.toNat < 128) → validD l = true
  | [], _ => by unfold validD; rfl
  | c :: l, h => by
    rw [validD_stepR _ (by simp)]
    have hc := h c (by simp)
    have : stepR (c :: l).length ((c :: l).getD 0 0).toNat ((c :: l).getD 1 0).toNat ((c :: l).getD 2 0).toNat ((c :: l).getD 3 0).toNat = some 1 := by
      unfold stepR
      have e : (c :: l).getD 0 0 = c := rfl
      rw [e, if_pos hc]
    rw [this]
    exact valid_ascii l (fun x hx => h x (by simp [hx]))

def awL : List LC := [⟨0, false, RV0, false⟩, ⟨1, false, RV0, false⟩]
def hiS : ByteArray := ⟨#[104, 105]⟩
def awR : List RV := [⟨1, false, 258, ByteArray.empty, false⟩, ⟨2, false, 0, hiS, false⟩]
def awT : List UInt8 := [39, 105, 116, 39, 39, 115, 39]
def itS : ByteArray := ⟨#[105, 116, 39, 115]⟩
def awN : List UInt8 := [50, 49, 52, 55, 52, 56, 51, 54, 52, 56]
theorem aw_form1 : formP ⟨1, false, 258, ByteArray.empty, false⟩ = 0 := by
  have hv : validD [] = true := by unfold validD; rfl
  unfold formP
  simp only [emp_list, hv]
  decide
theorem aw_form2 : formP ⟨2, false, 0, hiS, false⟩ = 0 := by
  have hv : validD hiS.data.toList = true := valid_ascii _ (by decide)
  unfold formP
  simp only [hv]
  decide
theorem aw_row : rowP (colsTo awL 2) awR = 0 := by
  unfold rowP
  rw [if_neg (by decide)]
  show (if fitsP 1 false ⟨1, false, 258, ByteArray.empty, false⟩ ≠ 0 then _ else if fitsP 2 false ⟨2, false, 0, hiS, false⟩ ≠ 0 then _ else 0) = 0
  have e1 : fitsP 1 false ⟨1, false, 258, ByteArray.empty, false⟩ = 0 := by unfold fitsP; rw [if_neg (by decide)]; exact aw_form1
  have e2 : fitsP 2 false ⟨2, false, 0, hiS, false⟩ = 0 := by unfold fitsP; rw [if_neg (by decide)]; exact aw_form2
  rw [e1, e2]; rfl
theorem aw_enc : encP 1 awR = [1, 0, 0, 2, 1, 0, 0, 2, 104, 105] := by decide
theorem aw_lit1 : litP awT = (⟨2, false, 0, itS, false⟩, 0) := by
  have hv : validD [105, 116, 39, 115] = true := valid_ascii _ (by decide)
  unfold litP
  rw [if_neg (by decide), if_neg (by decide), if_pos (by decide)]
  have e : (awT.take (awT.length - 1)).drop 1 = [105, 116, 39, 39, 115] := by decide
  have u : unq [105, 116, 39, 39, 115] = some [105, 116, 39, 115] := by decide
  rw [e]
  unfold quotP
  rw [u]
  simp only [hv]
  rfl
theorem aw_lit2 : litP awN = (badV, 16) := by
  unfold litP
  rw [if_neg (by decide), if_neg (by decide), if_neg (by decide)]
  have e : trimPrefix awN [45] = awN := by decide
  unfold numP
  rw [e]
  simp only
  rw [if_neg (by decide), parse_pos awN (by decide) (by decide), if_neg (by decide)]
theorem aw_ver : verAt awL 2 = 1 := by decide

set_option maxHeartbeats 4000000 in
set_option maxRecDepth 100000 in
theorem awake_any (w : World) (hE : Env w) : Calls Tryz.prog 13 #[] w (RPost w (.bool true)) := by
  obtain ⟨W, hW⟩ : ∃ W, W = w.alloc (.cells #[.int .u8 0, .bool false, .int .u8 0, .bool false, .int .i64 0, .string ⟨#[]⟩, .bool false, .bool false, .int .u8 1, .bool false, .int .u8 0, .bool false, .int .i64 0, .string ⟨#[]⟩, .bool false, .bool false] 93) := ⟨_, rfl⟩
  have hL : Has W w.heap.size (lCells awL) 93 := by rw [hW]; exact Has.new w _ _
  have hBW : Below w.heap.size w W := by rw [hW]; exact (Below.refl _ _).alloc (Nat.le_refl _) _
  have hEW := hE.below hBW
  have ht := table_any awL (by
    intro c hc
    simp only [awL, List.mem_cons, List.not_mem_nil, or_false] at hc
    rcases hc with rfl | rfl
    · exact ⟨by decide, by decide, by decide⟩
    · exact ⟨by decide, by decide, by decide⟩) (by decide) (some ⟨w.heap.size, 0, none⟩) 2 W (Rd.of_has hL 2 2)
  have hl2 : awL.length = 2 := rfl
  unfold TablePost at ht
  rw [hl2, show min 2 8 = 2 from rfl, aw_ver] at ht
  have hg := tab_good awL 2 (by omega) (by omega) (by
    intro c hc
    simp only [awL, List.mem_cons, List.not_mem_nil, or_false] at hc
    rcases hc with rfl | rfl <;> decide)
  rw [aw_ver] at hg
  replace hW := Lib.hid hW
  replace ht := Lib.hid ht
  go_enter Tryz.func13, Tryz.ntmps13
  go_wp2_with fail
  rw [← hW.out]
  refine ht.out.mono ?_
  rintro e w1 ⟨sa, sc, rfl, hR⟩
  have hb1 := hR.b
  have hr1 := hR.rd
  have hlen : (colsTo awL 2).length = 2 := rfl
  obtain ⟨cs, hcs⟩ : ∃ cs, cs = colsTo awL 2 := ⟨_, rfl⟩
  rw [← hcs] at hg hr1 hlen
  have haw := aw_row
  rw [← hcs] at haw
  replace hcs := Lib.hid hcs
  clear hR ht
  obtain ⟨W2, hW2⟩ : ∃ W2, W2 = w1.alloc (.cells #[.string tagS, .int .i64 1, .slice sa 2 sc, .slice none 0 0, .int .u64 0, .int .u64 0] 32) := ⟨_, rfl⟩
  have hT : Has W2 w1.heap.size [.string tagS, .int .i64 1, .slice sa 2 sc, .slice none 0 0, .int .u64 0, .int .u64 0] 32 := by rw [hW2]; exact Has.new _ _ _
  obtain ⟨W3, hW3⟩ : ∃ W3, W3 = W2.alloc (.cells #[.int .u8 1, .bool false, .int .i64 258, .string ⟨#[]⟩, .bool false, .int .u8 2, .bool false, .int .i64 0, .string ⟨#[104, 105]⟩, .bool false] 50) := ⟨_, rfl⟩
  have hV : Has W3 W2.heap.size (vCells awR) 50 := by rw [hW3]; exact Has.new _ _ _
  have hb12 : Below w1.heap.size w1 W2 := by rw [hW2]; exact (Below.refl _ _).alloc (Nat.le_refl _) _
  have hb13 : Below w1.heap.size w1 W3 := by rw [hW3]; exact hb12.alloc hb12.size _
  have hB3 := hb1.trans (hb13.mono hb1.size)
  have hBW3 := hBW.trans (hB3.mono hBW.size)
  have hE3 := hEW.below hB3
  have hen := rowenc_ok (w := W3) One.tag hg (l := awR) (by
    intro v hv
    simp only [awR, List.mem_cons, List.not_mem_nil, or_false] at hv
    rcases hv with rfl | rfl <;> decide) (by decide) (ca := sa) (cc := sc) (by rw [hlen]; exact hr1.kept hb13) (Rd.of_has hV 2 2) hE3 haw
  rw [hlen, show awR.length = 2 from rfl] at hen
  unfold EncPost at hen
  rw [aw_enc] at hen
  have hl10 : ([1, 0, 0, 2, 1, 0, 0, 2, 104, 105] : List Nat).length = 10 := rfl
  rw [hl10] at hen
  replace hen : Calls Tryz.prog 16 #[.agg #[.string tagS, .int .i64 1, .slice sa 2 sc, .slice none 0 0, .int .u64 0, .int .u64 0], .slice (some ⟨W2.heap.size, 0, none⟩) 2 2] W3 (fun e w' => ∃ sa sc, e = .returned (.tuple #[.slice sa 10 sc, .int .i64 0]) ∧ RowB W3 5 1 10 (bcells [1, 0, 0, 2, 1, 0, 0, 2, 104, 105]) sa sc w') := hen
  have t0 := hT.cell (o := 0) rfl
  have t1 := hT.cell (o := 1) rfl
  have t2 := hT.cell (o := 2) rfl
  have t3 := hT.cell (o := 3) rfl
  have t4 := hT.cell (o := 4) rfl
  have t5 := hT.cell (o := 5) rfl
  replace hW2 := Lib.hid hW2
  replace hW3 := Lib.hid hW3
  replace hen := Lib.hid hen
  clear hr1 hT hV hb12 hb13 hB3 hb1 hEW hBW hg hlen haw hL
  go_upto_region 2 with fail
  have g2 := hW2.out
  rw [← hW2.out]
  clear g2
  go_wp2_with fail
  rw [← hW3.out]
  with_reducible refine hen.out.mono ?_
  rintro e w3 ⟨pa, pc, rfl, hP⟩
  have hcv : ∀ w', Below w3.heap.size w3 w' → (convert 34 9 (.slice pa 10 pc)).run Tryz.prog w' = .ok (.string (strOfNats [1, 0, 0, 2, 1, 0, 0, 2, 104, 105])) w' := fun w' hb => conv_rd (l := [1, 0, 0, 2, 1, 0, 0, 2, 104, 105]) (hP.rd.kept hb) (by decide) (by decide)
  have hE4 := hE3.below hP.b
  have hB4 := hBW3.trans (hP.b.mono hBW3.size)
  have hq1 : ∀ w', Below w3.heap.size w3 w' → Calls Tryz.prog 26 #[.string ⟨#[39, 105, 116, 39, 39, 115, 39]⟩] w' (RPost w' (.tuple #[.agg #[.int .u8 2, .bool false, .int .i64 0, .string ⟨#[105, 116, 39, 115]⟩, .bool false], .int .i64 0])) := by
    intro w' hb
    have := literal_any ⟨#[39, 105, 116, 39, 39, 115, 39]⟩ (by decide) w' (hE4.below hb)
    rw [show (⟨#[39, 105, 116, 39, 39, 115, 39]⟩ : ByteArray).data.toList = awT from rfl, aw_lit1] at this
    exact this
  have hq2 : ∀ w', Below w3.heap.size w3 w' → Calls Tryz.prog 26 #[.string ⟨#[50, 49, 52, 55, 52, 56, 51, 54, 52, 56]⟩] w' (RPost w' (.tuple #[.agg #[.int .u8 0, .bool false, .int .i64 0, .string ⟨#[]⟩, .bool false], .int .i64 16])) := by
    intro w' hb
    have := literal_any ⟨#[50, 49, 52, 55, 52, 56, 51, 54, 52, 56]⟩ (by decide) w' (hE4.below hb)
    rw [show (⟨#[50, 49, 52, 55, 52, 56, 51, 54, 52, 56]⟩ : ByteArray).data.toList = awN from rfl, aw_lit2] at this
    exact this
  obtain ⟨S, hS⟩ : ∃ S, S = strOfNats [1, 0, 0, 2, 1, 0, 0, 2, 104, 105] := ⟨_, rfl⟩
  rw [← hS] at hcv
  have hSl : S.toList = [1, 0, 0, 2, 1, 0, 0, 2, 104, 105] := by rw [ByteArray.toList_eq, hS, list_strOfNats]; decide
  replace hcv := Lib.hid hcv
  replace hq1 := Lib.hid hq1
  replace hq2 := Lib.hid hq2
  replace hS := Lib.hid hS
  clear hP hE3 hE4 hen t0 t1 t2 t3 t4 t5 hBW3 hE hl10
  go_wp2_with fail
  refine (hq1.out _ (Below.refl _ _)).mono ?_
  rintro e w4 ⟨rfl, hb4⟩
  obtain ⟨W5, hW5⟩ : ∃ W5, W5 = w4.alloc (.cells #[.int .u8 2, .bool false, .int .i64 0, .string ⟨#[105, 116, 39, 115]⟩, .bool false] 50) := ⟨_, rfl⟩
  have hX : Has W5 w4.heap.size [.int .u8 2, .bool false, .int .i64 0, .string ⟨#[105, 116, 39, 115]⟩, .bool false] 50 := by rw [hW5]; exact Has.new _ _ _
  have hb5 : Below w3.heap.size w3 W5 := by rw [hW5]; exact hb4.alloc hb4.size _
  replace hW5 := Lib.hid hW5
  go_upto_region 4 with fail
  rw [← hW5.out]
  go_wp2_with fail
  refine (hq2.out _ hb5).mono ?_
  rintro e w6 ⟨rfl, hb6⟩
  have hX6 := hX.only (Only.of_below hb6) (Nat.not_le.2 hX.lt)
  have hb56 := hb5.trans (hb6.mono hb5.size)
  have hX7 := hX6.alloc (.cells #[.int .u8 0, .bool false, .int .i64 0, .string ⟨#[]⟩, .bool false] 50)
  have hb7 := hb56.alloc hb56.size (.cells #[.int .u8 0, .bool false, .int .i64 0, .string ⟨#[]⟩, .bool false] 50)
  have cv := hcv.out _ hb7
  have x0 := hX7.cell (o := 0) rfl
  have x1 := hX7.cell (o := 1) rfl
  have x2 := hX7.cell (o := 2) rfl
  have x3 := hX7.cell (o := 3) rfl
  have x4 := hX7.cell (o := 4) rfl
  have hfin := hB4.trans (hb7.mono hB4.size)
  replace hfin := Lib.hid hfin
  clear hX hX6 hX7 hb5 hb6 hb56 hb7 hcv hq1 hq2 hb4 hB4
  go_wp2_with fail
  go_ret
  exact ⟨rfl, hfin.out⟩
end Go.Proofs.YtpjbcadelmjmfaaGreatDoor
