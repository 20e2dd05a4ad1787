/- The reference's Closed. -/
import Derived.Test.YtpgjpoilcdkjgaaO29
import Derived.Test.YtpgjpoilcdkjgaaO25
import Derived.Test.YtpgjpoilcdkjgaaQ4
namespace Go.Proofs.Ytpgjpoilcdkjgaa
open Go.RowKit

theorem Rd.take {w : World} {a : Option Addr} {n cap : Nat} {xs : List Value} (h : Rd w (.slice a n cap) n xs) (k : Nat) (hk : k ≤ n) (hl : xs.length = n) : Rd w (.slice a k cap) k (xs.take k) := by
  obtain ⟨a', c', e, h⟩ := h
  simp only [Value.slice.injEq, true_and] at e
  obtain ⟨rfl, rfl⟩ := e
  refine ⟨_, _, rfl, ?_⟩
  rcases h with ⟨h0, rfl⟩ | ⟨b, off, rfl, hc⟩
  · exact .inl ⟨by omega, by simp⟩
  · refine .inr ⟨b, off, rfl, fun j u hj => ?_⟩
    rw [List.getElem?_take] at hj
    split at hj
    · exact hc j u hj
    · cases hj
/-- What the first k of a set have shown. -/
def PreCut (G : Gr) (set : List Int) (k : Nat) : Prop :=
  ∀ j, j < k → (0 ≤ set.getD j 0 ∧ set.getD j 0 < (G.ws.length : Int)) ∧ ¬ set.getD j 0 ∈ set.take j ∧ ∀ i : Nat, i < G.ws.length → G.before (i : Int) (set.getD j 0) = true → (i : Int) ∈ set
theorem precut_bad {G : Gr} (ok : G.Ok) {set : List Int} {k : Nat} (hk : k < set.length) (h : ¬ (0 ≤ set.getD k 0 ∧ set.getD k 0 < (G.ws.length : Int)) ∨ set.getD k 0 ∈ set.take k) : closedP G set = false := by
  cases hq : closedP G set with
  | false => rfl
  | true =>
    exfalso
    obtain ⟨h1, h2, _, _⟩ := (closed_iff ok set).1 hq
    rcases h with h | h
    · exact h (h1 _ (mem_getD 0 hk))
    · obtain ⟨i, hi, he⟩ := List.getElem_of_mem h
      rw [List.length_take] at hi
      rw [List.getElem_take] at he
      rw [List.getD, List.getElem?_eq_getElem hk] at he
      rw [List.nodup_iff_pairwise_ne, List.pairwise_iff_getElem] at h2
      exact h2 i k (by omega) hk (by omega) he
theorem closed_down {G : Gr} (ok : G.Ok) (hc : G.Count) {set : List Int} {i : Nat} {j : Int} (hi : i < G.ws.length) (hj : j ∈ set) (hb : G.before (i : Int) j = true) (hn : ¬ (i : Int) ∈ set) : closedP G set = false := by
  cases hq : closedP G set with
  | false => rfl
  | true =>
    exfalso
    have h := (closed_iff ok set).1 hq
    have h0 := h.1 j hj
    obtain ⟨m, rfl⟩ := Int.eq_ofNat_of_zero_le h0.1
    exact hn (cut_down ok hc h hi (by omega) hj hb)
theorem closed_must {G : Gr} (ok : G.Ok) {set : List Int} {i : Nat} (hi : i < G.ws.length) (hm : G.must i = true) (hn : ¬ (i : Int) ∈ set) : closedP G set = false := by
  cases hq : closedP G set with
  | false => rfl
  | true => exact absurd (cut_must ok ((closed_iff ok set).1 hq) hi hm) hn
theorem closed_all {G : Gr} (ok : G.Ok) (hc : G.Count) {set : List Int} (h : PreCut G set set.length) (hm : ∀ i, i < G.ws.length → G.must i = true → (i : Int) ∈ set) : closedP G set = true := by
  rw [closed_iff ok]
  have hmem : ∀ x ∈ set, ∃ j, j < set.length ∧ set.getD j 0 = x := by
    intro x hx
    obtain ⟨j, hj, he⟩ := List.getElem_of_mem hx
    exact ⟨j, hj, by rw [List.getD, List.getElem?_eq_getElem hj]; exact he⟩
  refine cut_of ok hc ?_ ?_ ?_ hm
  · intro x hx
    obtain ⟨j, hj, rfl⟩ := hmem x hx
    exact (h j hj).1
  · rw [List.nodup_iff_pairwise_ne, List.pairwise_iff_getElem]
    intro i j hi hj hij e
    refine (h j hj).2.1 ?_
    rw [List.getD, List.getElem?_eq_getElem hj]
    show set[j] ∈ set.take j
    rw [← e]
    exact List.mem_take_iff_getElem.2 ⟨i, by omega, rfl⟩
  · intro i j hi hj hb
    obtain ⟨q, hq, he⟩ := hmem _ hj
    have := (h q hq).2.2 i hi
    rw [he] at this
    exact this hb

set_option maxHeartbeats 8000000 in
set_option maxRecDepth 100000 in
theorem refclosed_any (G : Gr) (ok : G.Ok) (hcg : G.Count) (sa : Option Addr) (sc : Nat) (a : Option Addr) (ca : Nat) (set : List Int) (w : World) (h : Rd w (.slice sa G.ws.length sc) G.ws.length (sCells (stf G)))
    (hs : Rd w (.slice a set.length ca) set.length (set.map (.int .i64))) (hsl : set.length ≤ 9223372036854775807) (hcap : set.length ≤ ca) (hcm : ca ≤ 9223372036854775807) :
    Calls Try.prog 26 #[.slice sa G.ws.length sc, .slice a set.length ca] w (BoolPost w (closedP G set)) := by
  have hwl := ok.wl
  have hbad := fun k hk => @precut_bad G ok set k hk
  have hdn := fun i j hi hj hb => @closed_down G ok hcg set i j hi hj hb
  have hmu := fun i hi hm => @closed_must G ok set i hi hm
  have hall := @closed_all G ok hcg set
  have hbef := fun (i j : Int) w h => refbefore_any G ok sa sc i j w h
  have hhas := fun (x : Int) w h => refhas_any (.slice a set.length ca) set x w h hsl
  have hmem := fun k (hk : k < set.length) => mem_getD (xs := set) 0 hk
  have htake := fun k (hk : k ≤ set.length) => (show (set.take k).length = k by simp; omega)
  generalize hres : closedP G set = res at *
  replace hres := Lib.hid hres
  replace hbad := Lib.hid hbad
  replace hdn := Lib.hid hdn
  replace hmu := Lib.hid hmu
  replace hall := Lib.hid hall
  replace hbef := Lib.hid hbef
  replace hhas := Lib.hid hhas
  replace hmem := Lib.hid hmem
  replace htake := Lib.hid htake
  go_enter Try.func26, Try.ntmps26
  go_wp2_with fail
  go_loopw [12] (fun i wr => ∃ k : Nat, k ≤ set.length ∧ i = .int .i64 k ∧ Hid (PreCut G set k) ∧ Below w.heap.size w wr) (fun i _ => set.length - (intOf i).toNat)
  case atStart => exact ⟨0, by omega, rfl, fun j hj => by omega, Below.refl _ _⟩
  case round =>
    obtain ⟨k, hk, rfl, hP, hB⟩ := hrel
    by_cases hlt : k < set.length
    · have hkI : (k : Int) < set.length := by omega
      have hsk := hs.kept hB
      obtain ⟨b, off, c, e1, f⟩ := hsk.cells (by omega)
      simp only [Value.slice.injEq, true_and] at e1
      obtain ⟨rfl, hc⟩ := e1
      replace hc := Lib.hid hc
      have c0 := f k _ (ints_get set .i64 k hlt)
      have hb1 := hbad.out k hlt
      have hm1 := hmem.out k hlt
      have hkc : (k : Int) ≤ ca := by omega
      have hstep : (0 ≤ set.getD k 0 ∧ set.getD k 0 < (G.ws.length : Int)) → ¬ set.getD k 0 ∈ set.take k → (∀ i : Nat, i < G.ws.length → G.before (i : Int) (set.getD k 0) = true → (i : Int) ∈ set) → Hid (PreCut G set (k + 1)) := by
        intro h1 h2 h3 j hj
        rcases Nat.lt_or_ge j k with h4 | h4
        · exact hP j h4
        · have : j = k := by omega
          rw [this]; exact ⟨h1, h2, h3⟩
      have hpre := refhas_any (.slice (some ⟨b, off, none⟩) (set.take k).length ca) (set.take k) (set.getD k 0)
      have hrt := hsk.take k (by omega) (by simp)
      rw [← List.map_take] at hrt
      rw [htake.out k (by omega)] at hpre
      generalize set.getD k 0 = x at *
      replace hpre := Lib.hid (fun w h => hpre w h (by omega))
      replace hrt := Lib.hid hrt
      replace hstep := Lib.hid hstep
      replace hb1 := Lib.hid hb1
      replace hm1 := Lib.hid hm1
      clear f hsk
      by_cases h0 : x < 0
      · have d0 : decide (x < 0) = true := decide_eq_true h0
        have hr := Lib.hid (hb1.out (Or.inl (by omega)))
        go_wp2_with fail
        have hp : BoolPost w res (.returned (.bool false)) wr := by rw [hr.out]; exact ⟨rfl, hB⟩
        first | exact hp | (go_ret; exact hp)
      have d0 : decide (x < 0) = false := decide_eq_false h0
      by_cases hN : (G.ws.length : Int) ≤ x
      · have d1 : decide ((G.ws.length : Int) ≤ x) = true := decide_eq_true hN
        have hr := Lib.hid (hb1.out (Or.inl (by omega)))
        go_wp2_with fail
        have hp : BoolPost w res (.returned (.bool false)) wr := by rw [hr.out]; exact ⟨rfl, hB⟩
        first | exact hp | (go_ret; exact hp)
      have d1 : decide ((G.ws.length : Int) ≤ x) = false := decide_eq_false hN
      have hp1 := hpre.out wr hrt.out
      cases hin : decide (x ∈ set.take k) with
      | true =>
        have hr := hb1.out (Or.inr (of_decide_eq_true hin))
        rw [hin] at hp1
        replace hp1 := Lib.hid hp1
        replace hin := Lib.hid hin
        replace hr := Lib.hid hr
        go_wp2_with fail
        refine hp1.out.mono ?_
        rintro e w1 ⟨rfl, rfl⟩
        go_wp2_with fail
        have hp : BoolPost w res (.returned (.bool false)) wr := by rw [hr.out]; exact ⟨rfl, hB⟩
        first | exact hp | (go_ret; exact hp)
      | false =>
        have hnin := of_decide_eq_false hin
        rw [hin] at hp1
        replace hp1 := Lib.hid hp1
        replace hin := Lib.hid hin
        have hst := hstep.out (by omega) hnin
        replace hst := Lib.hid hst
        replace hnin := Lib.hid hnin
        go_wp2_with fail
        refine hp1.out.mono ?_
        rintro e w1 ⟨rfl, rfl⟩
        clear hp1 c0
        go_wp2_with fail
        obtain ⟨wo, rfl⟩ : ∃ y : World, y = wr := ⟨_, rfl⟩
        clear hrt
        go_loopw [34] (fun i wr => ∃ i' : Nat, i' ≤ G.ws.length ∧ i = .int .i64 i' ∧ Hid (∀ j : Nat, j < i' → G.before (j : Int) x = true → (j : Int) ∈ set) ∧ Below w.heap.size w wr) (fun i _ => G.ws.length - (intOf i).toNat)
        case atStart => exact ⟨0, by omega, rfl, fun j hj => by omega, hB⟩
        case round =>
          clear hB
          obtain ⟨i, hi, rfl, hQ, hB⟩ := hrel
          by_cases hil : i < G.ws.length
          · have hiI : (i : Int) < G.ws.length := by omega
            have hb2 := hbef.out i x wr (h.kept hB)
            unfold RBPost at hb2
            have hQs : (G.before (i : Int) x = true → (i : Int) ∈ set) → Hid (∀ j : Nat, j < i + 1 → G.before (j : Int) x = true → (j : Int) ∈ set) := by
              intro h1 j hj
              rcases Nat.lt_or_ge j i with h4 | h4
              · exact hQ j h4
              · have : j = i := by omega
                rw [this]; exact h1
            have hdn1 := fun hb hn => hdn.out i x hil hm1.out hb hn
            have hh2 := fun w h => hhas.out (i : Int) w h
            cases hbx : G.before (i : Int) x with
            | false =>
              rw [hbx] at hb2
              have hQ2 := hQs (by rw [hbx]; intro h; cases h)
              replace hb2 := Lib.hid hb2
              replace hbx := Lib.hid hbx
              replace hQ2 := Lib.hid hQ2
              clear hQs hdn1 hh2
              go_wp2_with fail
              refine hb2.out.mono ?_
              rintro e w2 ⟨rfl, m2, hw2⟩
              have hB2 : Below w.heap.size w w2 := hw2 ▸ below_drewN hB m2
              replace hw2 := Lib.hid hw2
              clear hb2 hB
              go_wp2_with fail
              go_roundw
              case rel => first | exact ⟨i + 1, by omega, by go_num, hQ2.out, hB2⟩ | ((repeat apply Exists.intro); exact ⟨⟨i + 1, by omega, by go_num, hQ2.out, hB2⟩, rfl⟩)
              case measure => simp [intOf]; omega
            | true =>
              rw [hbx] at hb2
              replace hb2 := Lib.hid hb2
              cases hix : decide ((i : Int) ∈ set) with
              | true =>
                have hQ2 := hQs (fun _ => of_decide_eq_true hix)
                simp only [hix] at hh2
                replace hh2 := Lib.hid hh2
                replace hbx := Lib.hid hbx
                replace hQ2 := Lib.hid hQ2
                replace hix := Lib.hid hix
                clear hQs hdn1
                go_wp2_with fail
                refine hb2.out.mono ?_
                rintro e w2 ⟨rfl, m2, hw2⟩
                have hB2 : Below w.heap.size w w2 := hw2 ▸ below_drewN hB m2
                replace hw2 := Lib.hid hw2
                clear hb2 hB
                go_wp2_with fail
                refine (hh2.out w2 (hs.kept hB2)).mono ?_
                rintro e w3 ⟨rfl, rfl⟩
                clear hh2
                go_wp2_with fail
                go_roundw
                case rel => first | exact ⟨i + 1, by omega, by go_num, hQ2.out, hB2⟩ | ((repeat apply Exists.intro); exact ⟨⟨i + 1, by omega, by go_num, hQ2.out, hB2⟩, rfl⟩)
                case measure => simp [intOf]; omega
              | false =>
                have hr := hdn1 hbx (of_decide_eq_false hix)
                simp only [hix] at hh2
                replace hh2 := Lib.hid hh2
                replace hbx := Lib.hid hbx
                replace hr := Lib.hid hr
                replace hix := Lib.hid hix
                clear hQs hdn1
                go_wp2_with fail
                refine hb2.out.mono ?_
                rintro e w2 ⟨rfl, m2, hw2⟩
                have hB2 : Below w.heap.size w w2 := hw2 ▸ below_drewN hB m2
                replace hw2 := Lib.hid hw2
                clear hb2 hB
                go_wp2_with fail
                refine (hh2.out w2 (hs.kept hB2)).mono ?_
                rintro e w3 ⟨rfl, rfl⟩
                clear hh2
                go_wp2_with fail
                have hp : BoolPost w res (.returned (.bool false)) w2 := by rw [hr.out]; exact ⟨rfl, hB2⟩
                first | exact hp | (go_ret; exact hp)
          · obtain rfl : i = G.ws.length := by omega
            have hst2 := hst.out (fun j hj => hQ j hj)
            replace hst2 := Lib.hid hst2
            go_wp2_with fail
            go_roundw
            case rel => first | exact ⟨k + 1, by omega, by go_num, hst2.out, hB⟩ | ((repeat apply Exists.intro); exact ⟨⟨k + 1, by omega, by go_num, hst2.out, hB⟩, rfl⟩)
            case measure => simp [intOf]; omega
    · obtain rfl : k = set.length := by omega
      have hkI : ¬ (set.length : Int) < (set.length : Int) := by omega
      go_wp2_with fail
      obtain ⟨wo, rfl⟩ : ∃ y : World, y = wr := ⟨_, rfl⟩
      go_loopw [51] (fun i wr => ∃ i' : Nat, i' ≤ G.ws.length ∧ i = .int .i64 i' ∧ Hid (∀ j : Nat, j < i' → G.must j = true → (j : Int) ∈ set) ∧ Below w.heap.size w wr) (fun i _ => G.ws.length - (intOf i).toNat)
      case atStart => exact ⟨0, by omega, rfl, fun j hj => by omega, hB⟩
      case round =>
        clear hB
        obtain ⟨i, hi, rfl, hQ, hB⟩ := hrel
        by_cases hil : i < G.ws.length
        · have hiI : (i : Int) < G.ws.length := by omega
          obtain ⟨bl, ol, c, e1, f⟩ := (h.kept hB).cells (by omega)
          simp only [Value.slice.injEq, true_and] at e1
          obtain ⟨rfl, hc⟩ := e1
          replace hc := Lib.hid hc
          have hat := stf_get G i hil
          have c0 : wr.cell? ⟨bl, ol + i * 4, none⟩ = _ := f _ _ (sCells_get _ i _ hat 0 _ rfl)
          have c1 : wr.cell? ⟨bl, ol + i * 4 + 1, none⟩ = _ := f _ _ (sCells_get _ i _ hat 1 _ rfl)
          have c2 : wr.cell? ⟨bl, ol + i * 4 + 2, none⟩ = _ := f _ _ (sCells_get _ i _ hat 2 _ rfl)
          have c3 : wr.cell? ⟨bl, ol + i * 4 + 3, none⟩ = _ := f _ _ (sCells_get _ i _ hat 3 _ rfl)
          simp only at c0 c1 c2 c3
          have hBA := hB.alloc hB.size (.cells #[.int .i64 ((G.line i : Nat) : Int), .int .u64 ((G.ws.getD i (0, 0)).1 : Int), .int .u64 ((G.ws.getD i (0, 0)).2 : Int), .bool (G.must i)] 57)
          have hQs : (G.must i = true → (i : Int) ∈ set) → Hid (∀ j : Nat, j < i + 1 → G.must j = true → (j : Int) ∈ set) := by
            intro h1 j hj
            rcases Nat.lt_or_ge j i with h4 | h4
            · exact hQ j h4
            · have : j = i := by omega
              rw [this]; exact h1
          have hmu1 := hmu.out i hil
          have hh2 := fun w h => hhas.out (i : Int) w h
          generalize G.line i = ln at *
          generalize G.must i = mu at *
          generalize (G.ws.getD i (0, 0)).1 = o1 at *
          generalize (G.ws.getD i (0, 0)).2 = v1 at *
          replace hat := Lib.hid hat
          clear f
          cases mu with
          | false =>
            have hQ2 := hQs (by intro h; cases h)
            replace hQ2 := Lib.hid hQ2
            clear hQs hmu1 hh2
            go_wp2_with fail
            go_roundw
            case rel => first | exact ⟨i + 1, by omega, by go_num, hQ2.out, hBA⟩ | ((repeat apply Exists.intro); exact ⟨⟨i + 1, by omega, by go_num, hQ2.out, hBA⟩, rfl⟩)
            case measure => simp [intOf]; omega
          | true =>
            cases hix : decide ((i : Int) ∈ set) with
            | true =>
              have hQ2 := hQs (fun _ => of_decide_eq_true hix)
              simp only [hix] at hh2
              replace hh2 := Lib.hid hh2
              replace hQ2 := Lib.hid hQ2
              replace hix := Lib.hid hix
              clear hQs hmu1
              go_wp2_with fail
              refine (hh2.out _ (hs.kept hBA)).mono ?_
              rintro e w3 ⟨rfl, rfl⟩
              clear hh2
              go_wp2_with fail
              go_roundw
              case rel => first | exact ⟨i + 1, by omega, by go_num, hQ2.out, hBA⟩ | ((repeat apply Exists.intro); exact ⟨⟨i + 1, by omega, by go_num, hQ2.out, hBA⟩, rfl⟩)
              case measure => simp [intOf]; omega
            | false =>
              have hr := hmu1 rfl (of_decide_eq_false hix)
              simp only [hix] at hh2
              replace hh2 := Lib.hid hh2
              replace hr := Lib.hid hr
              replace hix := Lib.hid hix
              clear hQs hmu1
              go_wp2_with fail
              refine (hh2.out _ (hs.kept hBA)).mono ?_
              rintro e w3 ⟨rfl, rfl⟩
              clear hh2
              go_wp2_with fail
              have hp := (show BoolPost w res (.returned (.bool false)) _ by rw [hr.out]; exact ⟨rfl, hBA⟩)
              first | exact hp | (go_ret; exact hp)
        · obtain rfl : i = G.ws.length := by omega
          have hr := hall.out hP (fun j hj => hQ j hj)
          replace hr := Lib.hid hr
          go_wp2_with fail
          have hp : BoolPost w res (.returned (.bool true)) wr := by rw [hr.out]; exact ⟨rfl, hB⟩
          first | exact hp | (go_ret; exact hp)
end Go.Proofs.Ytpgjpoilcdkjgaa
