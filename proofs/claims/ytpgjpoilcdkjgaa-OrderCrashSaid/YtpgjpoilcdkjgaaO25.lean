/- The reference's Before; the walk of OrderBefore. -/
import Derived.Test.YtpgjpoilcdkjgaaO24
namespace Go.Proofs.Ytpgjpoilcdkjgaa
open Go.RowKit

def RBPost (w : World) (b : Bool) (e : Ending) (w' : World) : Prop := e = .returned (.bool b) ∧ ∃ m, w.drewN m = w'

set_option maxHeartbeats 4000000 in
set_option maxRecDepth 100000 in
theorem refbefore_any (G : Gr) (ok : G.Ok) (sa : Option Addr) (cap : Nat) (i j : Int) (w : World) (h : Rd w (.slice sa G.ws.length cap) G.ws.length (sCells (stf G))) :
    Calls Try.prog 20 #[.slice sa G.ws.length cap, .int .i64 i, .int .i64 j] w (RBPost w (G.before i j)) := by
  by_cases h1 : i < 0
  · have hr : G.before i j = false := by unfold Gr.before; rw [decide_eq_false (by omega)]; rfl
    rw [hr]
    clear hr
    have d1 : decide (i < 0) = true := decide_eq_true h1
    go_enter Try.func20, Try.ntmps20
    go_wp2_with fail
    go_ret
    exact ⟨rfl, 0, rfl⟩
  have d1 : decide (i < 0) = false := decide_eq_false h1
  by_cases h2 : j < 0
  · have hr : G.before i j = false := by unfold Gr.before; rw [decide_eq_false (show ¬ (0 ≤ j ∧ j < (G.ws.length : Int)) by omega), Bool.and_false]; rfl
    rw [hr]
    clear hr
    have d2 : decide (j < 0) = true := decide_eq_true h2
    go_enter Try.func20, Try.ntmps20
    go_wp2_with fail
    go_ret
    exact ⟨rfl, 0, rfl⟩
  have d2 : decide (j < 0) = false := decide_eq_false h2
  by_cases h3 : (G.ws.length : Int) ≤ i
  · have hr : G.before i j = false := by unfold Gr.before; rw [decide_eq_false (by omega)]; rfl
    rw [hr]
    clear hr
    have d3 : decide ((G.ws.length : Int) ≤ i) = true := decide_eq_true h3
    go_enter Try.func20, Try.ntmps20
    go_wp2_with fail
    go_ret
    exact ⟨rfl, 0, rfl⟩
  have d3 : decide ((G.ws.length : Int) ≤ i) = false := decide_eq_false h3
  by_cases h4 : (G.ws.length : Int) ≤ j
  · have hr : G.before i j = false := by unfold Gr.before; rw [decide_eq_false (show ¬ (0 ≤ j ∧ j < (G.ws.length : Int)) by omega), Bool.and_false]; rfl
    rw [hr]
    clear hr
    have d4 : decide ((G.ws.length : Int) ≤ j) = true := decide_eq_true h4
    go_enter Try.func20, Try.ntmps20
    go_wp2_with fail
    go_ret
    exact ⟨rfl, 0, rfl⟩
  have d4 : decide ((G.ws.length : Int) ≤ j) = false := decide_eq_false h4
  obtain ⟨a, rfl⟩ := Int.eq_ofNat_of_zero_le (show 0 ≤ i by omega)
  obtain ⟨b, rfl⟩ := Int.eq_ofNat_of_zero_le (show 0 ≤ j by omega)
  have hal : a < G.ws.length := by omega
  have hbl : b < G.ws.length := by omega
  have hr : G.before (a : Int) (b : Int) = (G.must a || decide ((a : Int) = b) || (decide ((a : Int) < b) && decide (G.line a = G.line b))) := by
    unfold Gr.before; rw [decide_eq_true (show 0 ≤ (a : Int) ∧ (a : Int) < G.ws.length by omega), decide_eq_true (show 0 ≤ (b : Int) ∧ (b : Int) < G.ws.length by omega)]; simp
  rw [hr]
  clear hr
  have hwl := ok.wl
  have hla := (ok.line_lt hal).1
  have hlb := (ok.line_lt hbl).1
  have hn2 := ok.n2
  obtain ⟨bl, ol, c, e1, f⟩ := h.cells (by omega)
  simp only [Value.slice.injEq, true_and] at e1
  obtain ⟨rfl, hc⟩ := e1
  replace hc := Lib.hid hc
  have a0 : w.cell? ⟨bl, ol + a * 4, none⟩ = _ := f _ _ (sCells_get _ a _ (stf_get G a hal) 0 _ rfl)
  have a3 : w.cell? ⟨bl, ol + a * 4 + 3, none⟩ = _ := f _ _ (sCells_get _ a _ (stf_get G a hal) 3 _ rfl)
  have b0 : w.cell? ⟨bl, ol + b * 4, none⟩ = _ := f _ _ (sCells_get _ b _ (stf_get G b hbl) 0 _ rfl)
  simp only at a0 a3 b0
  have hai : (a : Int) < G.ws.length := by omega
  have hbi : (b : Int) < G.ws.length := by omega
  have ha0 : (0 : Int) ≤ (a : Int) := by omega
  have hb0 : (0 : Int) ≤ (b : Int) := by omega
  have hleq : decide (G.line a = G.line b) = (((G.line a : Nat) : Int) == ((G.line b : Nat) : Int)) := by rw [Bool.eq_iff_iff]; simp; omega
  have hiq : decide ((a : Int) = (b : Int)) = ((a : Int) == (b : Int)) := by rw [Bool.eq_iff_iff]; simp
  rw [hleq, hiq]
  clear hleq hiq f h h1 h2 h3 h4
  generalize G.line a = la at *
  generalize G.line b = lb at *
  cases hm : G.must a with
  | true =>
    rw [hm] at a3
    clear hm
    go_enter Try.func20, Try.ntmps20
    go_wp2_with fail
    go_quiet (fail)
    go_wp2_with fail
    go_ret
    exact ⟨rfl, _, rfl⟩
  | false =>
    rw [hm] at a3
    clear hm
    cases hq : ((a : Int) == (b : Int)) with
    | true =>
      go_enter Try.func20, Try.ntmps20
      go_wp2_with fail
      go_quiet (fail)
      go_wp2_with fail
      go_ret
      exact ⟨rfl, _, rfl⟩
    | false =>
      cases hl : (((la : Nat) : Int) == ((lb : Nat) : Int)) with
      | true =>
        by_cases hlt : a < b
        · have q1 : decide ((a : Int) < (b : Int)) = true := decide_eq_true (by omega)
          have q2 : decide (a < b) = true := decide_eq_true hlt
          rw [q1]
          go_enter Try.func20, Try.ntmps20
          go_wp2_with fail
          go_quiet (fail)
          go_wp2_with fail
          go_ret
          exact ⟨rfl, _, rfl⟩
        · have q1 : decide ((a : Int) < (b : Int)) = false := decide_eq_false (by omega)
          have q2 : decide (a < b) = false := decide_eq_false hlt
          rw [q1]
          go_enter Try.func20, Try.ntmps20
          go_wp2_with fail
          go_quiet (fail)
          go_wp2_with fail
          go_ret
          exact ⟨rfl, _, rfl⟩
      | false =>
        rw [Bool.and_false]
        go_enter Try.func20, Try.ntmps20
        go_wp2_with fail
        go_quiet (fail)
        go_wp2_with fail
        go_ret
        exact ⟨rfl, _, rfl⟩

theorem before_refl (G : Gr) (a : Nat) (h : a < G.ws.length) : G.before (a : Int) (a : Int) = true := by
  unfold Gr.before; rw [decide_eq_true (show 0 ≤ (a : Int) ∧ (a : Int) < G.ws.length by omega)]; simp
theorem before_trans (G : Gr) (hc : G.Count) (i j k : Int) (h1 : G.before i j = true) (h2 : G.before j k = true) : G.before i k = true := by
  unfold Gr.before at *
  simp only [Bool.and_eq_true, Bool.or_eq_true, decide_eq_true_eq] at *
  obtain ⟨⟨hi, hj⟩, a⟩ := h1
  obtain ⟨⟨_, hk⟩, b⟩ := h2
  refine ⟨⟨hi, hk⟩, ?_⟩
  rcases a with (a | rfl) | ⟨a1, a2⟩
  · exact Or.inl (Or.inl a)
  · exact b
  · rcases b with (b | rfl) | ⟨b1, b2⟩
    · refine Or.inl (Or.inl ?_)
      rw [hc.must (by omega)] at b ⊢
      rw [decide_eq_true_eq] at *
      rw [a2]
      have := cntL_mono G.ws (G.line j.toNat) (show i.toNat ≤ j.toNat by omega)
      omega
    · exact Or.inr ⟨a1, a2⟩
    · exact Or.inr ⟨by omega, a2.trans b2⟩

/-- What a law holds: the graph, the reference's stores. -/
structure LawSt (w : World) (g : Nat) (G : Gr) (sa : Option Addr) (sc : Nat) (wr : World) : Prop where
  g : GraphSt wr g G
  s : Rd wr (.slice sa G.ws.length sc) G.ws.length (sCells (stf G))
  b : Below w.heap.size w wr
theorem LawSt.below {w wr w' : World} {g sc : Nat} {G : Gr} {sa : Option Addr} (h : LawSt w g G sa sc wr) (hb : Below wr.heap.size wr w') : LawSt w g G sa sc w' :=
  ⟨h.g.kept hb, h.s.kept hb, h.b.trans (hb.mono h.b.size)⟩
theorem LawSt.drewN {w wr w' : World} {g sc m : Nat} {G : Gr} {sa : Option Addr} (h : LawSt w g G sa sc wr) (e : wr.drewN m = w') : LawSt w g G sa sc w' :=
  h.below (e ▸ below_drewN (Below.refl _ _) m)

/-- The first four lines of a law, as a contract for what follows. -/
theorem LawSt.mk' {w w3 : World} {g sc : Nat} {sa : Option Addr} {es : List Ev} (hl : es.length ≤ 20000) (hg : ∀ e ∈ es, e.Good) (hG : GraphSt w3 g (runP 4 es).G)
    (hs : Rd w3 (.slice sa (refRunP 4 es).out.length sc) (refRunP 4 es).out.length (sCells (refRunP 4 es).out)) (hb : Below w.heap.size w w3) : (refRunP 4 es).out.length = (runP 4 es).G.ws.length ∧ LawSt w g (runP 4 es).G sa sc w3 := by
  have st := start es hl hg hG
  rw [st.out] at hs ⊢
  have := stf_length (runP 4 es).G
  rw [this] at hs ⊢
  exact ⟨rfl, hG, hs, hb⟩

set_option maxHeartbeats 8000000 in
set_option maxRecDepth 100000 in
theorem before_walk (acs : List Ac) (hf : ∀ a ∈ acs, a.Fit) (aa : Option Addr) (cap : Nat) (p q : Int) (w : World) (hr : Rd w (.slice aa acs.length cap) acs.length (acCells acs)) (hll : acs.length ≤ 9223372036854775807) :
    Calls Try.prog 4 #[.slice aa acs.length cap, .int .i64 p, .int .i64 q] w (BoolPost w true) := by
  go_enter Try.func4, Try.ntmps4
  go_wp2_with fail
  refine (awake_any w).mono ?_
  rintro e w1 ⟨rfl, hB1⟩
  have hev := events_any acs hf aa cap 24 (by omega) w1 (hr.kept hB1) hll
  have hel := evs_len acs 24
  have heg := evs_good acs hf 24
  generalize evs (acs.take 24) = es at *
  replace hev := Lib.hid hev
  go_wp2_with fail
  refine hev.out.mono ?_
  rintro e w2 ⟨oa, oc, sa, sc, rfl, hRo, hRs, hB2⟩
  have hBa := hB1.trans (hB2.mono hB1.size)
  have hnew := new_ok 4 es oa oc w2 (by omega) (by omega) (by omega) hRo heg
  replace hnew := Lib.hid hnew
  clear hev hB1 hB2 hr
  go_wp2_with fail
  refine hnew.out.mono ?_
  rintro e w3 ⟨g, rfl, hG, hB3⟩
  have st := start es (by omega) heg hG
  obtain ⟨hlen, hL⟩ := LawSt.mk' (by omega) heg hG (hRs.kept hB3) (hBa.trans (hB3.mono hBa.size))
  rw [hlen]
  replace hlen := Lib.hid hlen
  have hok := st.ok
  have hcg := st.cg
  clear st
  generalize (runP 4 es).G = G at *
  have hwl := hok.wl
  have hbef := fun (i j : Int) w h => before_any g G i j w h
  have href := fun (i j : Int) w h => refbefore_any G hok sa sc i j w h
  have hb1 := hbef p q w3 hL.g
  have hrf := fun w h => href p q w h
  generalize G.before p q = x0 at hb1 hrf
  replace hb1 := Lib.hid hb1
  replace hrf := Lib.hid hrf
  replace hbef := Lib.hid hbef
  replace href := Lib.hid href
  clear hnew hB3 hBa hRo hRs hG
  go_wp2_with fail
  refine hb1.out.mono ?_
  rintro e w4 ⟨rfl, m4, hw4⟩
  have hL4 := hL.drewN hw4
  have hr4 := hrf.out w4 hL4.s
  unfold RBPost at hr4
  replace hr4 := Lib.hid hr4
  replace hw4 := Lib.hid hw4
  clear hb1 hrf hL
  go_wp2_with fail
  refine hr4.out.mono ?_
  rintro e w5 ⟨rfl, m5, hw5⟩
  have hL5 := hL4.drewN hw5
  replace hw5 := Lib.hid hw5
  clear hr4 hL4
  go_wp2_with fail
  go_loopw [43] (fun i wr => ∃ a : Nat, a ≤ G.ws.length ∧ i = .int .i64 a ∧ LawSt w g G sa sc wr) (fun i _ => G.ws.length - (intOf i).toNat)
  case atStart => exact ⟨0, by omega, rfl, hL5⟩
  case round =>
    clear hL5
    obtain ⟨a, ha, rfl, hLa⟩ := hrel
    by_cases hal : a < G.ws.length
    · have haI : (a : Int) < G.ws.length := by omega
      go_wp2_with fail
      obtain ⟨wo, rfl⟩ : ∃ x : World, x = wr := ⟨_, rfl⟩
      go_loopw [47] (fun i wr => ∃ b : Nat, b ≤ G.ws.length ∧ i = .int .i64 b ∧ LawSt w g G sa sc wr) (fun i _ => G.ws.length - (intOf i).toNat)
      case atStart => exact ⟨0, by omega, rfl, hLa⟩
      case round =>
        clear hLa
        obtain ⟨b, hb, rfl, hLb⟩ := hrel
        by_cases hbl : b < G.ws.length
        · have hbI : (b : Int) < G.ws.length := by omega
          have hb1 := hbef.out a b wr hLb.g
          have hr1 := fun w h => href.out a b w h
          have hrefl : ((a : Int) == (b : Int)) = true → G.before a b = true := by
            intro e
            have : a = b := by rw [beq_iff_eq] at e; omega
            subst this
            exact before_refl G a hal
          cases hx : G.before (a : Int) (b : Int) with
          | false =>
            have hne : ((a : Int) == (b : Int)) = false := by
              cases he : ((a : Int) == (b : Int)) with
              | true => rw [hrefl he] at hx; cases hx
              | false => rfl
            rw [hx] at hb1
            simp only [hx] at hr1
            unfold RBPost at hr1
            clear hrefl
            replace hb1 := Lib.hid hb1
            replace hr1 := Lib.hid hr1
            replace hx := Lib.hid hx
            go_wp2_with fail
            refine hb1.out.mono ?_
            rintro e w6 ⟨rfl, m6, hw6⟩
            have hL6 := hLb.drewN hw6
            replace hw6 := Lib.hid hw6
            go_wp2_with fail
            refine (hr1.out w6 hL6.s).mono ?_
            rintro e w7 ⟨rfl, m7, hw7⟩
            have hL7 := hL6.drewN hw7
            replace hw7 := Lib.hid hw7
            clear hLb hL6 hr1 hb1
            go_wp2_with fail
            obtain ⟨wq, rfl⟩ : ∃ x : World, x = wr := ⟨_, rfl⟩
            go_loopw [72] (fun i wr => ∃ c : Nat, c ≤ G.ws.length ∧ i = .int .i64 c ∧ LawSt w g G sa sc wr) (fun i _ => G.ws.length - (intOf i).toNat)
            case atStart => exact ⟨0, by omega, rfl, hL7⟩
            case round =>
              clear hL7
              obtain ⟨c, hc, rfl, hLc⟩ := hrel
              by_cases hcl : c < G.ws.length
              · have hcI : (c : Int) < G.ws.length := by omega
                have hab := hbef.out a b wr hLc.g
                rw [hx.out] at hab
                replace hab := Lib.hid hab
                go_wp2_with fail
                refine hab.out.mono ?_
                rintro e w8 ⟨rfl, m8, hw8⟩
                have hL8 := hLc.drewN hw8
                replace hw8 := Lib.hid hw8
                clear hLc hab
                go_wp2_with fail
                go_roundw
                case rel => first | exact ⟨c + 1, by omega, by go_num, hL8⟩ | ((repeat apply Exists.intro); exact ⟨⟨c + 1, by omega, by go_num, hL8⟩, rfl⟩)
                case measure => simp [intOf]; omega
              · obtain rfl : c = G.ws.length := by omega
                go_wp2_with fail
                go_roundw
                case rel => first | exact ⟨b + 1, by omega, by go_num, hLc⟩ | ((repeat apply Exists.intro); exact ⟨⟨b + 1, by omega, by go_num, hLc⟩, rfl⟩)
                case measure => simp [intOf]; omega
          | true =>
            clear hrefl
            rw [hx] at hb1
            simp only [hx] at hr1
            unfold RBPost at hr1
            cases hne : ((a : Int) == (b : Int)) with
            | false =>
              replace hb1 := Lib.hid hb1
              replace hr1 := Lib.hid hr1
              replace hx := Lib.hid hx
              go_wp2_with fail
              refine hb1.out.mono ?_
              rintro e w6 ⟨rfl, m6, hw6⟩
              have hL6 := hLb.drewN hw6
              replace hw6 := Lib.hid hw6
              go_wp2_with fail
              refine (hr1.out w6 hL6.s).mono ?_
              rintro e w7 ⟨rfl, m7, hw7⟩
              have hL7 := hL6.drewN hw7
              replace hw7 := Lib.hid hw7
              clear hLb hL6 hr1 hb1
              go_wp2_with fail
              obtain ⟨wq, rfl⟩ : ∃ x : World, x = wr := ⟨_, rfl⟩
              go_loopw [72] (fun i wr => ∃ c : Nat, c ≤ G.ws.length ∧ i = .int .i64 c ∧ LawSt w g G sa sc wr) (fun i _ => G.ws.length - (intOf i).toNat)
              case atStart => exact ⟨0, by omega, rfl, hL7⟩
              case round =>
                clear hL7
                obtain ⟨c, hc, rfl, hLc⟩ := hrel
                by_cases hcl : c < G.ws.length
                · have hcI : (c : Int) < G.ws.length := by omega
                  have hab := hbef.out a b wr hLc.g
                  rw [hx.out] at hab
                  replace hab := Lib.hid hab
                  cases hy : G.before (b : Int) (c : Int) with
                  | false =>
                    replace hy := Lib.hid hy
                    go_wp2_with fail
                    refine hab.out.mono ?_
                    rintro e w8 ⟨rfl, m8, hw8⟩
                    have hL8 := hLc.drewN hw8
                    replace hw8 := Lib.hid hw8
                    have hbc := hbef.out b c w8 hL8.g
                    rw [hy.out] at hbc
                    replace hbc := Lib.hid hbc
                    clear hLc hab
                    go_wp2_with fail
                    refine hbc.out.mono ?_
                    rintro e w9 ⟨rfl, m9, hw9⟩
                    have hL9 := hL8.drewN hw9
                    replace hw9 := Lib.hid hw9
                    clear hL8 hbc
                    go_wp2_with fail
                    go_roundw
                    case rel => first | exact ⟨c + 1, by omega, by go_num, hL9⟩ | ((repeat apply Exists.intro); exact ⟨⟨c + 1, by omega, by go_num, hL9⟩, rfl⟩)
                    case measure => simp [intOf]; omega
                  | true =>
                    have hz := before_trans G hcg a b c hx.out hy
                    replace hy := Lib.hid hy
                    replace hz := Lib.hid hz
                    go_wp2_with fail
                    refine hab.out.mono ?_
                    rintro e w8 ⟨rfl, m8, hw8⟩
                    have hL8 := hLc.drewN hw8
                    replace hw8 := Lib.hid hw8
                    have hbc := hbef.out b c w8 hL8.g
                    rw [hy.out] at hbc
                    replace hbc := Lib.hid hbc
                    clear hLc hab
                    go_wp2_with fail
                    refine hbc.out.mono ?_
                    rintro e w9 ⟨rfl, m9, hw9⟩
                    have hL9 := hL8.drewN hw9
                    replace hw9 := Lib.hid hw9
                    have hac := hbef.out a c w9 hL9.g
                    rw [hz.out] at hac
                    replace hac := Lib.hid hac
                    clear hL8 hbc
                    go_wp2_with fail
                    refine hac.out.mono ?_
                    rintro e w10 ⟨rfl, m10, hw10⟩
                    have hL10 := hL9.drewN hw10
                    replace hw10 := Lib.hid hw10
                    clear hL9 hac
                    go_wp2_with fail
                    go_roundw
                    case rel => first | exact ⟨c + 1, by omega, by go_num, hL10⟩ | ((repeat apply Exists.intro); exact ⟨⟨c + 1, by omega, by go_num, hL10⟩, rfl⟩)
                    case measure => simp [intOf]; omega
                · obtain rfl : c = G.ws.length := by omega
                  go_wp2_with fail
                  go_roundw
                  case rel => first | exact ⟨b + 1, by omega, by go_num, hLc⟩ | ((repeat apply Exists.intro); exact ⟨⟨b + 1, by omega, by go_num, hLc⟩, rfl⟩)
                  case measure => simp [intOf]; omega
            | true =>
              replace hb1 := Lib.hid hb1
              replace hr1 := Lib.hid hr1
              replace hx := Lib.hid hx
              go_wp2_with fail
              refine hb1.out.mono ?_
              rintro e w6 ⟨rfl, m6, hw6⟩
              have hL6 := hLb.drewN hw6
              replace hw6 := Lib.hid hw6
              go_wp2_with fail
              refine (hr1.out w6 hL6.s).mono ?_
              rintro e w7 ⟨rfl, m7, hw7⟩
              have hL7 := hL6.drewN hw7
              replace hw7 := Lib.hid hw7
              clear hLb hL6 hr1 hb1
              have haa := hbef.out a b w7 hL7.g
              rw [hx.out] at haa
              replace haa := Lib.hid haa
              go_wp2_with fail
              refine haa.out.mono ?_
              rintro e w7b ⟨rfl, m7b, hw7b⟩
              have hL7b := hL7.drewN hw7b
              replace hw7b := Lib.hid hw7b
              clear hL7 haa
              have hL7 := hL7b
              clear hL7b
              go_wp2_with fail
              obtain ⟨wq, rfl⟩ : ∃ x : World, x = wr := ⟨_, rfl⟩
              go_loopw [72] (fun i wr => ∃ c : Nat, c ≤ G.ws.length ∧ i = .int .i64 c ∧ LawSt w g G sa sc wr) (fun i _ => G.ws.length - (intOf i).toNat)
              case atStart => exact ⟨0, by omega, rfl, hL7⟩
              case round =>
                clear hL7
                obtain ⟨c, hc, rfl, hLc⟩ := hrel
                by_cases hcl : c < G.ws.length
                · have hcI : (c : Int) < G.ws.length := by omega
                  have hab := hbef.out a b wr hLc.g
                  rw [hx.out] at hab
                  replace hab := Lib.hid hab
                  cases hy : G.before (b : Int) (c : Int) with
                  | false =>
                    replace hy := Lib.hid hy
                    go_wp2_with fail
                    refine hab.out.mono ?_
                    rintro e w8 ⟨rfl, m8, hw8⟩
                    have hL8 := hLc.drewN hw8
                    replace hw8 := Lib.hid hw8
                    have hbc := hbef.out b c w8 hL8.g
                    rw [hy.out] at hbc
                    replace hbc := Lib.hid hbc
                    clear hLc hab
                    go_wp2_with fail
                    refine hbc.out.mono ?_
                    rintro e w9 ⟨rfl, m9, hw9⟩
                    have hL9 := hL8.drewN hw9
                    replace hw9 := Lib.hid hw9
                    clear hL8 hbc
                    go_wp2_with fail
                    go_roundw
                    case rel => first | exact ⟨c + 1, by omega, by go_num, hL9⟩ | ((repeat apply Exists.intro); exact ⟨⟨c + 1, by omega, by go_num, hL9⟩, rfl⟩)
                    case measure => simp [intOf]; omega
                  | true =>
                    have hz := before_trans G hcg a b c hx.out hy
                    replace hy := Lib.hid hy
                    replace hz := Lib.hid hz
                    go_wp2_with fail
                    refine hab.out.mono ?_
                    rintro e w8 ⟨rfl, m8, hw8⟩
                    have hL8 := hLc.drewN hw8
                    replace hw8 := Lib.hid hw8
                    have hbc := hbef.out b c w8 hL8.g
                    rw [hy.out] at hbc
                    replace hbc := Lib.hid hbc
                    clear hLc hab
                    go_wp2_with fail
                    refine hbc.out.mono ?_
                    rintro e w9 ⟨rfl, m9, hw9⟩
                    have hL9 := hL8.drewN hw9
                    replace hw9 := Lib.hid hw9
                    have hac := hbef.out a c w9 hL9.g
                    rw [hz.out] at hac
                    replace hac := Lib.hid hac
                    clear hL8 hbc
                    go_wp2_with fail
                    refine hac.out.mono ?_
                    rintro e w10 ⟨rfl, m10, hw10⟩
                    have hL10 := hL9.drewN hw10
                    replace hw10 := Lib.hid hw10
                    clear hL9 hac
                    go_wp2_with fail
                    go_roundw
                    case rel => first | exact ⟨c + 1, by omega, by go_num, hL10⟩ | ((repeat apply Exists.intro); exact ⟨⟨c + 1, by omega, by go_num, hL10⟩, rfl⟩)
                    case measure => simp [intOf]; omega
                · obtain rfl : c = G.ws.length := by omega
                  go_wp2_with fail
                  go_roundw
                  case rel => first | exact ⟨b + 1, by omega, by go_num, hLc⟩ | ((repeat apply Exists.intro); exact ⟨⟨b + 1, by omega, by go_num, hLc⟩, rfl⟩)
                  case measure => simp [intOf]; omega
        · obtain rfl : b = G.ws.length := by omega
          go_wp2_with fail
          go_roundw
          case rel => first | exact ⟨a + 1, by omega, by go_num, hLb⟩ | ((repeat apply Exists.intro); exact ⟨⟨a + 1, by omega, by go_num, hLb⟩, rfl⟩)
          case measure => simp [intOf]; omega
    · obtain rfl : a = G.ws.length := by omega
      have hbf := hLa.b
      go_wp2_with fail
      have hpost : BoolPost w true (.returned (.bool true)) wr := ⟨rfl, hbf⟩
      first | exact hpost | (go_ret; exact ⟨rfl, hbf⟩)
end Go.Proofs.Ytpgjpoilcdkjgaa
