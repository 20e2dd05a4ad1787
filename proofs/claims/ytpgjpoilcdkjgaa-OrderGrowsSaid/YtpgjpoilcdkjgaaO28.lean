/- The walk of OrderGrows. -/
import Derived.Test.YtpgjpoilcdkjgaaO27
namespace Go.Proofs.Ytpgjpoilcdkjgaa
open Go.RowKit

theorem new_at (n : Nat) (es : List Ev) (N : Nat) (hN : es.length = N) (a : Option Addr) (cap : Nat) (w : World) (h1 : 1 ≤ n) (h2 : n ≤ 4096) (hl : N ≤ 20000) (hr : Rd w (.slice a N cap) N (evCells es)) (hg : ∀ e ∈ es, e.Good) :
    Calls Try.prog 14 #[.int .i64 n, .slice a N cap] w (NewPost w n es) := by
  subst hN; exact new_ok n es a cap w h1 h2 hl hr hg

set_option maxHeartbeats 8000000 in
set_option maxRecDepth 100000 in
theorem grows_walk (acs : List Ac) (hf : ∀ a ∈ acs, a.Fit) (aa : Option Addr) (cap : Nat) (bcs : List Ac) (hfb : ∀ a ∈ bcs, a.Fit) (ba : Option Addr) (bcap : Nat) (w : World) (hr : Rd w (.slice aa acs.length cap) acs.length (acCells acs)) (hll : acs.length ≤ 9223372036854775807)
    (hrb : Rd w (.slice ba bcs.length bcap) bcs.length (acCells bcs)) (hlb : bcs.length ≤ 9223372036854775807) :
    Calls Try.prog 9 #[.slice aa acs.length cap, .slice ba bcs.length bcap] w (BoolPost w true) := by
  go_enter Try.func9, Try.ntmps9
  go_wp2_with fail
  refine (awake_any w).mono ?_
  rintro e w1 ⟨rfl, hB1⟩
  have hev := events_any acs hf aa cap 20 (by omega) w1 (hr.kept hB1) hll
  have hrb1 := hrb.kept hB1
  have hel := evs_len acs 20
  have heg := evs_good acs hf 20
  have hem := evs_len bcs 20
  have hmg := evs_good bcs hfb 20
  have hev2 := fun w h => events_any bcs hfb ba bcap 20 (by omega) w h hlb
  generalize evs (acs.take 20) = es at *
  generalize evs (bcs.take 20) = ms at *
  replace hev := Lib.hid hev
  replace hev2 := Lib.hid hev2
  go_wp2_with fail
  refine hev.out.mono ?_
  rintro e w2 ⟨oa, oc, sa, sc, rfl, hRo, hRs, hB2⟩
  have hBa := hB1.trans (hB2.mono hB1.size)
  have hv2 := hev2.out w2 (hrb1.kept hB2)
  replace hv2 := Lib.hid hv2
  clear hev hev2 hB1 hB2 hr hrb hrb1 hRs
  go_wp2_with fail
  refine hv2.out.mono ?_
  rintro e w3 ⟨ma, mc, ta, tc, rfl, hRm, hRt, hB3⟩
  have hRo3 := hRo.kept hB3
  have hBb := hBa.trans (hB3.mono hBa.size)
  have hnew := new_ok 4 es oa oc w3 (by omega) (by omega) (by omega) hRo3 heg
  replace hnew := Lib.hid hnew
  clear hv2 hBa hB3 hRo hRt
  go_wp2_with fail
  refine hnew.out.mono ?_
  rintro e w4 ⟨g, rfl, hG, hB4⟩
  have hRo4 := hRo3.kept hB4
  have hRm4 := hRm.kept hB4
  have hBc := hBb.trans (hB4.mono hBb.size)
  have hE := World.ownsRow_lit w4 #[] 0 (base := 0) (e := 65) (size := 8) (Nat.zero_le _) (by decide) rfl
  have hA4 : Below w4.heap.size w4 (w4.alloc (.cells #[] 65)) := (Below.refl _ _).alloc (Nat.le_refl _) _
  have hRo5 := hRo4.kept hA4
  have hby1 : (0 + es.length) * 80 ≤ 140737488355328 := by omega
  have hby2 : (es.length + ms.length) * 80 ≤ 140737488355328 := by omega
  have hone1 := evCells_one es heg
  have hone2 := evCells_one ms hmg
  have hle1 := evCells_length es
  have hle2 := evCells_length ms
  replace hle1 := Lib.hid hle1
  replace hle2 := Lib.hid hle2
  replace hone1 := Lib.hid hone1
  replace hone2 := Lib.hid hone2
  clear hnew hB4 hBb hRo3 hRm hRo4
  go_wp2_with (at_builtin; refine wpList_appAll rfl (.tmp 38) (.tmp 39) 24 rfl 65 (.agg #[.int .u8 0, .int .i64 0, .int .u64 0, .int .u64 0, .int .u64 0, .int .i64 0, .int .i64 0, .slice none 0 0]) 8 80 Try.underlying24 info65 rfl (by decide) (by decide) (some ⟨w4.heap.size, 0, none⟩) 0 0 (Nat.le_refl _) [] (by exact hE) rfl oa es.length oc (evCells es) rfl (by exact hRo5) (by exact hle1.out) (by exact hone1.out) (by exact hby1) ?_)
  intro a5 c5 w5 hc5 own5 only5 fresh5
  (try simp only [Nat.zero_add] at hc5)
  (try simp only [Nat.zero_add, List.nil_append] at own5)
  (try simp only [Nat.zero_add] at fresh5)
  have hB45 : Below w4.heap.size w4 w5 := hA4.trans (only5.below (B := w4.heap.size) (by simp) (fun k _ hk => by simp [Value.ownBlock] at hk; omega))
  have hRm5 := hRm4.kept hB45
  have hob5 : ∀ k, Value.ownBlock (.slice a5 es.length c5) = some k → w4.heap.size ≤ k := by
    intro k hk
    rcases fresh5 k hk with h1 | h1
    · simp [Value.ownBlock] at h1; omega
    · first | omega | (simp at h1; omega)
  clear only5 fresh5 hE hRm4 hRo5 hA4
  replace hob5 := Lib.hid hob5
  go_wp2_with (at_builtin; refine wpList_appAll rfl (.tmp 40) (.tmp 41) 24 rfl 65 (.agg #[.int .u8 0, .int .i64 0, .int .u64 0, .int .u64 0, .int .u64 0, .int .i64 0, .int .i64 0, .slice none 0 0]) 8 80 Try.underlying24 info65 rfl (by decide) (by decide) a5 es.length c5 (by exact hc5) (evCells es) (by exact own5) rfl ma ms.length mc (evCells ms) rfl (by exact hRm5) (by exact hle2.out) (by exact hone2.out) (by exact hby2) ?_)
  intro a6 c6 w6 hc6 own6 only6 fresh6
  have hB56 : Below w4.heap.size w5 w6 := only6.below hB45.size (fun k _ hk => hob5.out k hk)
  have hB46 := hB45.trans hB56
  rw [← evCells_app] at own6
  have hall : ∀ e ∈ es ++ ms, e.Good := by
    intro e he
    rw [List.mem_append] at he
    rcases he with he | he
    · exact heg e he
    · exact hmg e he
  have hnew2 := new_at 4 (es ++ ms) (es.length + ms.length) (by simp) a6 c6 w6 (by omega) (by omega) (by omega) (Rd.of_own own6) hall
  replace hnew2 := Lib.hid hnew2
  replace hall := Lib.hid hall
  have hG6 := hG.kept hB46
  have hBd := hBc.trans (hB46.mono hBc.size)
  clear own5 own6 only6 fresh6 hB45 hB56 hB46 hRm5 hG hBc
  go_wp2_with fail
  refine hnew2.out.mono ?_
  rintro e w7 ⟨h, rfl, hH, hB7⟩
  have hT : Two w g h (runP 4 es).G (runP 4 (es ++ ms)).G w7 := ⟨hG6.kept hB7, hH, hBd.trans (hB7.mono hBd.size)⟩
  have hx := ext_run 4 (by omega) (by omega) es ms (by simp; omega) (fun e he => (hall.out e he).fit)
  have hxl := hx.len
  have hxn := fun i hi => hx.get i hi
  have hxli := fun i hi => hx.line i hi
  have hxm := fun i hi => hx.must i hi
  have hxb := fun i j hi hj => hx.before i j hi hj
  generalize (runP 4 es).G = G at *
  generalize (runP 4 (es ++ ms)).G = H at *
  have hGl := hT.g.ok.wl
  have hHl := hT.h.ok.wl
  have hst := fun w t => stores_any h H w t
  have hsg := fun w t => stores_any g G w t
  have hlI : ¬ (H.ws.length : Int) < G.ws.length := by omega
  have hlD : decide ((H.ws.length : Int) < G.ws.length) = false := decide_eq_false hlI
  replace hx := Lib.hid hx
  replace hxn := Lib.hid hxn
  replace hxli := Lib.hid hxli
  replace hxm := Lib.hid hxm
  replace hxb := Lib.hid hxb
  replace hst := Lib.hid hst
  replace hsg := Lib.hid hsg
  clear hnew2 hG6 hBd hH hB7
  go_wp2_with fail
  refine (hst.out _ hT.h).mono ?_
  rintro e w8 ⟨rfl, rfl⟩
  go_wp2_with fail
  refine (hsg.out _ hT.g).mono ?_
  rintro e w8 ⟨rfl, rfl⟩
  go_wp2_with fail
  refine (hsg.out _ hT.g).mono ?_
  rintro e w8 ⟨rfl, rfl⟩
  go_wp2_with fail
  go_loopw [61] (fun i wr => ∃ k : Nat, k ≤ G.ws.length ∧ i = .int .i64 k ∧ Two w g h G H wr) (fun i _ => G.ws.length - (intOf i).toNat)
  case atStart => exact ⟨0, by omega, rfl, hT⟩
  case round =>
    clear hT
    obtain ⟨k, hk, rfl, hTk⟩ := hrel
    by_cases hlt : k < G.ws.length
    · have hkI : (k : Int) < G.ws.length := by omega
      have hkH : k < H.ws.length := by omega
      have ofg := fun w t => of_yes g G k w t hlt
      have ofh := fun w t => of_yes h H k w t hkH
      rw [hxli.out k hlt, hxn.out k hlt] at ofh
      have mmh := fun w t => mandatory_any h H w t
      have mmg := fun w t => mandatory_any g G w t
      have hch := contains_cut H k hkH
      have hcg := contains_cut G k hlt
      have hxm1 := hxm.out k hlt
      have hxb1 := fun j hj => hxb.out k j hlt hj
      have hclH := cutK_le H H.md H.ws.length
      have hclG := cutK_le G G.md G.ws.length
      have hcdH : cutL H H.md = cutK H H.md H.ws.length := rfl
      have hcdG : cutL G G.md = cutK G G.md G.ws.length := rfl
      rw [← hcdH] at hclH
      rw [← hcdG] at hclG
      generalize cutL H H.md = ch at *
      generalize cutL G G.md = cg at *
      generalize H.must k = mu at *
      generalize G.must k = gm at *
      generalize G.line k = ln at *
      generalize (G.ws.getD k (0, 0)).1 = off at *
      generalize (G.ws.getD k (0, 0)).2 = val at *
      replace ofg := Lib.hid ofg
      replace ofh := Lib.hid ofh
      replace mmh := Lib.hid mmh
      replace mmg := Lib.hid mmg
      replace hch := Lib.hid hch
      replace hcg := Lib.hid hcg
      replace hxb1 := Lib.hid hxb1
      replace hcdH := Lib.hid hcdH
      replace hcdG := Lib.hid hcdG
      go_wp2_with fail
      refine (ofg.out _ hTk.g).mono ?_
      rintro e w8 ⟨rfl, hB8⟩
      have hT8 := hTk.below hB8
      have hT8a := hT8.below ((Below.refl w8.heap.size w8).alloc (Nat.le_refl _) (.cells #[.int .u64 (off : Int), .int .u64 (val : Int)] 59))
      have hN8 := Has.new w8 [.int .u64 (off : Int), .int .u64 (val : Int)] 59
      clear hTk hB8 hT8 ofg
      go_wp2_with fail
      refine (ofh.out _ hT8a.h).mono ?_
      rintro e w9 ⟨rfl, hB9⟩
      have hT9 := hT8a.below hB9
      have hT9a := hT9.below ((Below.refl w9.heap.size w9).alloc (Nat.le_refl _) (.cells #[.int .u64 (off : Int), .int .u64 (val : Int)] 59))
      have hN9 := (hN8.only (Only.of_below hB9) (by simp)).alloc (.cells #[.int .u64 (off : Int), .int .u64 (val : Int)] 59)
      have hlw := hB9.size
      simp only [World.size_alloc] at hlw
      have hM9 := Has.new w9 [.int .u64 (off : Int), .int .u64 (val : Int)] 59
      have x0 := hN9.cell (o := 0) rfl
      have x1 := hN9.cell (o := 1) rfl
      have y0 := hM9.cell (o := 0) rfl
      have y1 := hM9.cell (o := 1) rfl
      clear hT8a hB9 hN8 hT9 ofh hN9 hM9
      go_wp2_with fail
      refine (mmh.out _ hT9a.h).mono ?_
      rintro e w10 ⟨pa, pc, rfl, hown, hB10, _⟩
      have hT10 := hT9a.below hB10
      have hc10 := contains_nats (.slice pa ch.length pc) ch k w10 (Rd.of_own hown) (by omega)
      rw [hch.out] at hc10
      replace hc10 := Lib.hid hc10
      clear hT9a hown hB10 mmh x0 x1 y0 y1
      go_wp2_with fail
      refine hc10.out.mono ?_
      rintro e w11 ⟨rfl, rfl⟩
      clear hc10
      go_wp2_with fail
      refine (mmg.out _ hT10.g).mono ?_
      rintro e w12 ⟨qa, qc, rfl, hown, hB12, _⟩
      have hT12 := hT10.below hB12
      have hc12 := contains_nats (.slice qa cg.length qc) cg k w12 (Rd.of_own hown) (by omega)
      rw [hcg.out] at hc12
      replace hc12 := Lib.hid hc12
      clear hT10 hown hB12 mmg
      have hgm : (gm && !mu) = false := by
        cases gm with
        | false => rfl
        | true => rw [hxm1 rfl]; rfl
      cases gm with
      | false =>
        clear hxm1
        go_wp2_with fail
        refine hc12.out.mono ?_
        rintro e w13 ⟨rfl, rfl⟩
        clear hc12
        go_wp2_with fail
        refine (hsg.out _ hT12.g).mono ?_
        rintro e w14 ⟨rfl, rfl⟩
        go_wp2_with fail
        obtain ⟨wo, rfl⟩ : ∃ x : World, x = wr := ⟨_, rfl⟩
        go_loopw [98] (fun i wr => ∃ j : Nat, j ≤ G.ws.length ∧ i = .int .i64 j ∧ Two w g h G H wr) (fun i _ => G.ws.length - (intOf i).toNat)
        case atStart => exact ⟨0, by omega, rfl, hT12⟩
        case round =>
          clear hT12
          obtain ⟨j, hj, rfl, hTj⟩ := hrel
          by_cases hjl : j < G.ws.length
          · have hjI : (j : Int) < G.ws.length := by omega
            have hbh := before_any h H k j wr hTj.h
            rw [hxb1.out j hjl] at hbh
            have hbg := fun w t => before_any g G k j w t
            generalize G.before (k : Int) (j : Int) = bg at *
            replace hbh := Lib.hid hbh
            replace hbg := Lib.hid hbg
            cases bg with
            | false =>
              go_wp2_with fail
              refine hbh.out.mono ?_
              rintro e w15 ⟨rfl, m15, hw15⟩
              have hT15 := hTj.drewN hw15
              replace hw15 := Lib.hid hw15
              clear hTj hbh
              go_wp2_with fail
              refine (hbg.out _ hT15.g).mono ?_
              rintro e w16 ⟨rfl, m16, hw16⟩
              have hT16 := hT15.drewN hw16
              replace hw16 := Lib.hid hw16
              clear hT15 hbg
              go_wp2_with fail
              go_roundw
              case rel => first | exact ⟨j + 1, by omega, by go_num, hT16⟩ | ((repeat apply Exists.intro); exact ⟨⟨j + 1, by omega, by go_num, hT16⟩, rfl⟩)
              case measure => simp [intOf]; omega
            | true =>
              go_wp2_with fail
              refine hbh.out.mono ?_
              rintro e w15 ⟨rfl, m15, hw15⟩
              have hT15 := hTj.drewN hw15
              replace hw15 := Lib.hid hw15
              clear hTj hbh
              go_wp2_with fail
              refine (hbg.out _ hT15.g).mono ?_
              rintro e w16 ⟨rfl, m16, hw16⟩
              have hT16 := hT15.drewN hw16
              replace hw16 := Lib.hid hw16
              clear hT15 hbg
              go_wp2_with fail
              go_roundw
              case rel => first | exact ⟨j + 1, by omega, by go_num, hT16⟩ | ((repeat apply Exists.intro); exact ⟨⟨j + 1, by omega, by go_num, hT16⟩, rfl⟩)
              case measure => simp [intOf]; omega
          · obtain rfl : j = G.ws.length := by omega
            go_wp2_with fail
            go_roundw
            case rel => first | exact ⟨k + 1, by omega, by go_num, hTj⟩ | ((repeat apply Exists.intro); exact ⟨⟨k + 1, by omega, by go_num, hTj⟩, rfl⟩)
            case measure => simp [intOf]; omega
      | true =>
        obtain rfl : mu = true := hxm1 rfl
        clear hxm1
        go_wp2_with fail
        refine hc12.out.mono ?_
        rintro e w13 ⟨rfl, rfl⟩
        clear hc12
        go_wp2_with fail
        refine (hsg.out _ hT12.g).mono ?_
        rintro e w14 ⟨rfl, rfl⟩
        go_wp2_with fail
        obtain ⟨wo, rfl⟩ : ∃ x : World, x = wr := ⟨_, rfl⟩
        go_loopw [98] (fun i wr => ∃ j : Nat, j ≤ G.ws.length ∧ i = .int .i64 j ∧ Two w g h G H wr) (fun i _ => G.ws.length - (intOf i).toNat)
        case atStart => exact ⟨0, by omega, rfl, hT12⟩
        case round =>
          clear hT12
          obtain ⟨j, hj, rfl, hTj⟩ := hrel
          by_cases hjl : j < G.ws.length
          · have hjI : (j : Int) < G.ws.length := by omega
            have hbh := before_any h H k j wr hTj.h
            rw [hxb1.out j hjl] at hbh
            have hbg := fun w t => before_any g G k j w t
            generalize G.before (k : Int) (j : Int) = bg at *
            replace hbh := Lib.hid hbh
            replace hbg := Lib.hid hbg
            cases bg with
            | false =>
              go_wp2_with fail
              refine hbh.out.mono ?_
              rintro e w15 ⟨rfl, m15, hw15⟩
              have hT15 := hTj.drewN hw15
              replace hw15 := Lib.hid hw15
              clear hTj hbh
              go_wp2_with fail
              refine (hbg.out _ hT15.g).mono ?_
              rintro e w16 ⟨rfl, m16, hw16⟩
              have hT16 := hT15.drewN hw16
              replace hw16 := Lib.hid hw16
              clear hT15 hbg
              go_wp2_with fail
              go_roundw
              case rel => first | exact ⟨j + 1, by omega, by go_num, hT16⟩ | ((repeat apply Exists.intro); exact ⟨⟨j + 1, by omega, by go_num, hT16⟩, rfl⟩)
              case measure => simp [intOf]; omega
            | true =>
              go_wp2_with fail
              refine hbh.out.mono ?_
              rintro e w15 ⟨rfl, m15, hw15⟩
              have hT15 := hTj.drewN hw15
              replace hw15 := Lib.hid hw15
              clear hTj hbh
              go_wp2_with fail
              refine (hbg.out _ hT15.g).mono ?_
              rintro e w16 ⟨rfl, m16, hw16⟩
              have hT16 := hT15.drewN hw16
              replace hw16 := Lib.hid hw16
              clear hT15 hbg
              go_wp2_with fail
              go_roundw
              case rel => first | exact ⟨j + 1, by omega, by go_num, hT16⟩ | ((repeat apply Exists.intro); exact ⟨⟨j + 1, by omega, by go_num, hT16⟩, rfl⟩)
              case measure => simp [intOf]; omega
          · obtain rfl : j = G.ws.length := by omega
            go_wp2_with fail
            go_roundw
            case rel => first | exact ⟨k + 1, by omega, by go_num, hTj⟩ | ((repeat apply Exists.intro); exact ⟨⟨k + 1, by omega, by go_num, hTj⟩, rfl⟩)
            case measure => simp [intOf]; omega
    · obtain rfl : k = G.ws.length := by omega
      have hbf := hTk.b
      go_wp2_with fail
      have hpost : BoolPost w true (.returned (.bool true)) wr := ⟨rfl, hbf⟩
      first | exact hpost | (go_ret; exact ⟨rfl, hbf⟩)
end Go.Proofs.Ytpgjpoilcdkjgaa
