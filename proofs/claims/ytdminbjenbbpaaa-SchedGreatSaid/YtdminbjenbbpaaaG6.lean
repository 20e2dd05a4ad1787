/- The walk of SchedGreat. -/
import Derived.Test.YtdminbjenbbpaaaG5
import Derived.Test.YtdminbjenbbpaaaS9
import Derived.Deep.RegionLaw
namespace Go.Proofs.Ytdminbjenbbpaaa
open Go.RowKit

theorem info35 : (Try.prog.info? 35).map (fun i => (i.zero, i.size, i.bytes)) = some (some (.int .u64 0), 1, 8) := by kernel_rfl
def u64s (l : List Nat) : List Value := l.map fun (n : Nat) => .int .u64 (n : Int)
theorem u64s_get (l : List Nat) (i n : Nat) (h : l[i]? = some n) : (u64s l)[i]? = some (.int .u64 (n : Int)) := by simp [u64s, h]
theorem u64s_snoc (l : List Nat) (n : Nat) : u64s l ++ [.int .u64 (n : Int)] = u64s (l ++ [n]) := by simp [u64s]
theorem own_new (w : World) (cs : List Value) (T : TypeId) (h : cs.length ≤ maxLen) : (w.alloc (.cells cs.toArray T)).ownsRow 0 T 1 (.slice (some ⟨w.heap.size, 0, none⟩) cs.length cs.length) cs.length cs :=
  ⟨by simp, .inr ⟨w.heap.size, cs.length, cs.toArray, rfl, Nat.zero_le _, heap_alloc_new, Nat.le_refl _, h, by simp, by simp⟩⟩
theorem has_news {w : World} {b : Nat} {cs : List Value} {E : TypeId} (hh : Has w b cs E) : ∀ j u, cs[j]? = some u → w.cell? ((⟨b, 0, none⟩ : Addr).add j) = some u := fun j u hj => by
  have : (⟨b, 0, none⟩ : Addr).add j = ⟨b, j, none⟩ := by unfold Addr.add; split <;> simp_all
  rw [this]; exact hh.cell hj
/-- An append to a row of the call's own as a step of a region that draws its order. -/
theorem step_app2 {P : Program} {w : World} {ops : Array Oper} {o : Oper} {a : Act} {K : Act → World → Prop} {Q : Exit → Act → World → Prop} {E : Prop} (hgd : o.guard = none) (s x : Operand) (t : TypeId)
    (ho : o.op = .call { callee := .builtin .append, args := #[s, x], argTypes := #[t, t] })
    (e : TypeId) (z : Value) (size bytes : Nat) (ht : P.underlying t = some (.slice e))
    (hi : (P.info? e).map (fun i => (i.zero, i.size, i.bytes)) = some (some z, size, bytes)) (hzs : z.cells.size = size) (hsz : 0 < size) (hby : 0 < bytes)
    (sa : Option Addr) (n cap : Nat) (xs : List Value) (hown : w.ownsRow 0 e size (.slice sa n cap) n xs) (hs : a.eval s = .slice sa n cap)
    (ad : Addr) (m c : Nat) (news : List Value) (hx : a.eval x = .slice (some ad) m c) (hl : news.length = m * size) (hnews : ∀ j u, news[j]? = some u → w.cell? (ad.add j) = some u) (h1 : ∀ u ∈ news, u.oneCell' = true)
    (hbytes : (n + m) * bytes ≤ 140737488355328)
    (h : ∀ sa' cap' w', w'.ownsRow 0 e size (.slice sa' (n + m) cap') (n + m) (xs ++ news) → Only (fun k => Value.ownBlock (.slice sa n cap) = some k) w w' →
      (∀ k, Value.ownBlock (.slice sa' (n + m) cap') = some k → Value.ownBlock (.slice sa n cap) = some k ∨ w.heap.size ≤ k) → K (a.put o.dst (.slice sa' (n + m) cap')) w') :
    if Region.wanted o (yielded ops a.tmps) = true then Oper.wp P o a w K Q else E := by
  have hw : Region.wanted o (yielded ops a.tmps) = true := by simp [Region.wanted, hgd]
  rw [if_pos hw]
  obtain ⟨sa', cap', w', hr, h2, h3, h4⟩ := app_run (P := P) w t o.type e z size bytes ht hi hzs hsz hby sa n cap xs hown ad m c news hl hnews h1 hbytes
  unfold Oper.wp execOp
  simp only [ho, resolve, invoke, builtin, Sem.run_bind, Sem.run_pure, Result.andThen_ok, List.map_toArray, List.map_cons, List.map_nil, hs, hx, hr]
  exact h sa' cap' w' h2 h3 h4
set_option maxHeartbeats 4000000 in
set_option maxRecDepth 100000 in
theorem great_walk (a b : Int) (ha : 0 ≤ a ∧ a ≤ 255) (hb : 0 ≤ b ∧ b ≤ 255) (W : World) :
    Calls Try.prog 4 #[.int .u8 a, .int .u8 b] W fun e w' => e = .returned (.bool true) ∧ Below W.heap.size W w' := by
  obtain ⟨x, hx, hx60⟩ : ∃ x : Nat, a % 60 = (x : Int) ∧ x < 60 := ⟨(a % 60).toNat, by omega, by omega⟩
  obtain ⟨y, hy, hy60⟩ : ∃ y : Nat, b % 60 = (y : Int) ∧ y < 60 := ⟨(b % 60).toNat, by omega, by omega⟩
  go_enter Try.func4, Try.ntmps4
  go_wp2_with fail
  refine (awake_any _).mono ?_
  rintro e w1 ⟨rfl, b1⟩
  have H1 := Has.new w1 [.int .i64 (x : Int), .int .i64 (y : Int)] 3
  have hc := count_any [(x : Int), (y : Int)] _ _ (Rd.of_has H1 2 2) (by show 2 ≤ 64; omega) (by intro s hs; simp only [List.mem_cons, List.not_mem_nil, or_false] at hs; omega)
  have b2 := b1.alloc b1.size (.cells #[.int .i64 (x : Int), .int .i64 (y : Int)] 3)
  obtain ⟨c1, ok, hc1, hcs⟩ : ∃ (c1 : Nat) (ok : Bool), (Calls Try.prog 17 #[.slice (some ⟨w1.heap.size, 0, none⟩) 2 2] (w1.alloc (.cells #[.int .i64 (x : Int), .int .i64 (y : Int)] 3)) fun e w' => e = .returned (.tuple #[.int .u64 (c1 : Int), .bool ok]) ∧ ∃ m, (w1.alloc (.cells #[.int .i64 (x : Int), .int .i64 (y : Int)] 3)).drewN m = w') ∧
      ((bin (x + y) x ≤ most ∧ c1 = bin (x + y) x ∧ ok = true) ∨ (most < bin (x + y) x ∧ c1 = most ∧ ok = false)) := by
    refine ⟨_, _, hc, ?_⟩
    unfold countV
    rw [cntP_two]
    by_cases h : bin (x + y) x ≤ most
    · rw [if_pos h]; exact .inl ⟨h, rfl, rfl⟩
    · rw [if_neg h]; exact .inr ⟨by omega, rfl, rfl⟩
  clear hc
  replace hc1 := Lib.hid hc1
  replace hcs := Lib.hid hcs
  go_wp2_with fail
  refine hc1.out.mono ?_
  rintro e w' ⟨rfl, m, rfl⟩
  rw [hx, hy]
  have b3 := below_drewN b2 m
  clear hx hy ha hb hc1 H1 b1 b2
  generalize (w1.alloc (.cells #[.int .i64 (x : Int), .int .i64 (y : Int)] 3)).drewN m = w2 at *
  have O0 := own_new w2 [.int .u64 1] 35 (by decide)
  have B0 := b3.alloc b3.size (.cells #[.int .u64 1] 35)
  have b3s := b3.size
  go_wp2_with fail
  go_loopw [10, 9] (fun nv rv wr => ∃ (j : Nat) (ra : Option Addr) (rc : Nat), j ≤ x + y ∧ nv = .int .i64 ((j : Int) + 1) ∧ rv = .slice ra (j + 1) rc ∧ wr.ownsRow 0 35 1 (.slice ra (j + 1) rc) (j + 1) (u64s (rowP j)) ∧ Below W.heap.size W wr ∧ (∀ k, Value.ownBlock (.slice ra (j + 1) rc) = some k → W.heap.size ≤ k)) (fun nv _ _ => x + y + 1 - (intOf nv).toNat)
  case atStart => exact ⟨0, _, _, Nat.zero_le _, rfl, rfl, O0, B0, fun k hk => by cases hk; exact b3s⟩
  case round =>
    clear O0 B0 b3
    obtain ⟨j, ra, rc, hj, rfl, rfl, own, bel, fr⟩ := hrel
    obtain ⟨wq, rfl⟩ : ∃ wq, wq = wr := ⟨_, rfl⟩
    have hxy : x + y ≤ 118 := by omega
    have rrd := Rd.of_own own
    by_cases hlt : j < x + y
    · have hd1 : decide ((j : Int) + 1 ≤ (x : Int) + (y : Int)) = true := decide_eq_true (by omega)
      have hd1P : (j : Int) + 1 ≤ (x : Int) + (y : Int) := by omega
      have wrs := bel.size
      have N0 := own_new wq [.int .u64 1] 35 (by decide)
      have NB := (Below.refl wq.heap.size wq).alloc (Nat.le_refl _) (.cells #[.int .u64 1] 35)
      have hone : u64s ((rowP (j + 1)).take 1) = [.int .u64 1] := by rw [rowP_one]; rfl
      replace hlt := Lib.hid hlt
      replace rrd := Lib.hid rrd
      go_wp2_with fail
      clear hd1 hd1P own
      go_loopw [12, 11] (fun kv nv wr => ∃ (i : Nat) (na : Option Addr) (nc : Nat), i ≤ j ∧ kv = .int .i64 ((i : Int) + 1) ∧ nv = .slice na (i + 1) nc ∧ wr.ownsRow 0 35 1 (.slice na (i + 1) nc) (i + 1) (u64s ((rowP (j + 1)).take (i + 1))) ∧ Below wq.heap.size wq wr ∧ (∀ k, Value.ownBlock (.slice na (i + 1) nc) = some k → wq.heap.size ≤ k)) (fun kv _ _ => j + 1 - (intOf kv).toNat)
      case atStart => exact ⟨0, _, _, Nat.zero_le _, rfl, rfl, by rw [hone]; exact N0, NB, fun k hk => by cases hk; exact Nat.le_refl _⟩
      case round =>
        clear N0 NB
        obtain ⟨i, na, nc, hi, rfl, rfl, own, belI, frI⟩ := hrel
        have hjs : j + 1 < 200 := by have := hlt.out; omega
        by_cases hij : i < j
        · have hd1 : decide ((i : Int) + 1 < (j : Int) + 1) = true := decide_eq_true (by omega)
          have hd2 : (i : Int) + 1 < (j : Int) + 1 := by omega
          have hd3 : (i : Int) < (j : Int) := by omega
          have hd4 : decide (i < j) = true := decide_eq_true hij
          obtain ⟨rb, ro, rcc, ea, fa⟩ := (rrd.out.kept belI).cells (by omega)
          simp only [Value.slice.injEq, true_and] at ea
          obtain ⟨rfl, ea2⟩ := ea
          have r0 : wr.cell? ⟨rb, ro + i, none⟩ = _ := fa _ _ (u64s_get _ _ _ (rowP_get j i (by omega)))
          have r1 : wr.cell? ⟨rb, ro + (i + 1), none⟩ = _ := fa _ _ (u64s_get _ _ _ (rowP_get j (i + 1) (by omega)))
          have hstep := rowP_step j i
          have htk := rowP_take (j + 1) (i + 1) (by omega)
          have hcap : cap62 = 4611686018427387905 := rfl
          obtain ⟨p, hp⟩ : ∃ p, p = min (bin j i) cap62 := ⟨_, rfl⟩
          obtain ⟨q, hq⟩ : ∃ q, q = min (bin j (i + 1)) cap62 := ⟨_, rfl⟩
          obtain ⟨v, hv⟩ : ∃ v, v = min (bin (j + 1) (i + 1)) cap62 := ⟨_, rfl⟩
          rw [← hp] at r0 hstep
          rw [← hq] at r1 hstep
          rw [← hv] at hstep htk
          have hps : p ≤ 4611686018427387905 := by rw [hp, hcap]; exact Nat.min_le_right _ _
          have hqs : q ≤ 4611686018427387905 := by rw [hq, hcap]; exact Nat.min_le_right _ _
          rw [hcap] at hstep
          obtain ⟨t, ht⟩ : ∃ t, t = p + q := ⟨_, rfl⟩
          have hw : IntKind.u64.wrap ((p : Int) + (q : Int)) = (t : Int) := by rw [show (p : Int) + (q : Int) = (t : Int) by omega]; exact u64w _ (by omega)
          have hmn : min (t : Int) 4611686018427387905 = (v : Int) := by omega
          have hmI : (if (4611686018427387905 : Int) < (t : Int) then (4611686018427387905 : Int) else (t : Int)) = (v : Int) := by
            by_cases h : (4611686018427387905 : Int) < (t : Int)
            · rw [if_pos h]; omega
            · rw [if_neg h]; omega
          have hwi : IntKind.i64.wrap (i : Int) = (i : Int) := IntWalk.i64_in _ (by omega)
          have hw2 := Lib.hid (show wrap64 ((i : Int) + 1 + 1) = (i : Int) + 1 + 1 by unfold wrap64; omega)
          have hb1 : (i : Int) < (j : Int) + 1 := by omega
          have hb2 : (0 : Int) ≤ (i : Int) + 1 := by omega
          have hb3 : (0 : Int) ≤ (i : Int) := by omega
          have hti : ((i : Int) + 1).toNat = i + 1 := by omega
          have ownA := own.alloc (.cells #[.int .u64 (v : Int)] 35)
          have NA := has_news (Has.new wr [.int .u64 (v : Int)] 35)
          have r0A : (wr.alloc (.cells #[.int .u64 (v : Int)] 35)).cell? ⟨rb, ro + i, none⟩ = _ := ((Only.refl (fun _ => False) wr).alloc (.cells #[.int .u64 (v : Int)] 35)).cell r0 (fun s => s)
          have r1A : (wr.alloc (.cells #[.int .u64 (v : Int)] 35)).cell? ⟨rb, ro + (i + 1), none⟩ = _ := ((Only.refl (fun _ => False) wr).alloc (.cells #[.int .u64 (v : Int)] 35)).cell r1 (fun s => s)
          have hrel2 : ∀ sa cap w', w'.ownsRow 0 35 1 (.slice sa (i + 1 + 1) cap) (i + 1 + 1) (u64s ((rowP (j + 1)).take (i + 1)) ++ [.int .u64 (v : Int)]) → Only (fun k => Value.ownBlock (.slice na (i + 1) nc) = some k) (wr.alloc (.cells #[.int .u64 (v : Int)] 35)) w' →
              (∀ k, Value.ownBlock (.slice sa (i + 1 + 1) cap) = some k → Value.ownBlock (.slice na (i + 1) nc) = some k ∨ (wr.alloc (.cells #[.int .u64 (v : Int)] 35)).heap.size ≤ k) →
              w'.ownsRow 0 35 1 (.slice sa (i + 1 + 1) cap) (i + 1 + 1) (u64s ((rowP (j + 1)).take (i + 1 + 1))) ∧ Below wq.heap.size wq w' ∧ (∀ k, Value.ownBlock (.slice sa (i + 1 + 1) cap) = some k → wq.heap.size ≤ k) := by
            intro sa cap w' h1 h2 h3
            rw [u64s_snoc, ← htk] at h1
            have hs := belI.size
            refine ⟨h1, belI.trans ((((Only.refl (fun k => Value.ownBlock (.slice na (i + 1) nc) = some k) wr).alloc _).trans h2).below hs (fun k _ e => frI k e)), fun k hk => ?_⟩
            rcases h3 k hk with h | h
            · exact frI k h
            · simp only [World.size_alloc] at h; omega
          replace hrel2 := Lib.hid hrel2
          replace ownA := Lib.hid ownA
          replace NA := Lib.hid NA
          replace htk := Lib.hid htk
          replace hp := Lib.hid hp
          replace hq := Lib.hid hq
          replace hv := Lib.hid hv
          replace ht := Lib.hid ht
          replace hstep := Lib.hid hstep
          replace hij := Lib.hid hij
          replace hi := Lib.hid hi
          replace ea2 := Lib.hid ea2
          replace hjs := Lib.hid hjs
          clear fa own belI frI rrd fr bel hcap hj hps hqs
          go_wp2_with fail
          go_region_law (refine step_app2 rfl (.tmp 43) (.tmp 55) 38 rfl 35 (.int .u64 0) 1 8 Try.underlying38 info35 rfl (by decide) (by decide) na (i + 1) nc _ ownA.out rfl ⟨wr.heap.size, 0, none⟩ 1 1 [.int .u64 (v : Int)] rfl rfl NA.out (by simp [Value.oneCell']) (by have := hij.out; have := hjs.out; omega) ?_; intro sa cap w5 own5 only5 fresh5)
          all_goals
            have nx := hrel2.out sa cap w5 own5 (by first | exact only5 | exact ((Only.refl (fun k => Value.ownBlock (.slice na (i + 1) nc) = some k) _).drew).trans only5) fresh5
            obtain ⟨n1, n2, n3⟩ := nx
            have hij' := hij.out
            clear own5 only5 fresh5 r0 r1 r0A r1A
            have hjs' := hjs.out
            have hjI : (i : Int) + 1 + 1 < 200 := by omega
            go_wp2_with fail
            exact ⟨⟨i + 1, sa, cap, by omega, congrArg _ (by omega), rfl, n1, n2, n3⟩, by simp [intOf]; omega⟩
        · obtain rfl : i = j := by omega
          have hd1 : decide ((i : Int) + 1 < (i : Int) + 1) = false := decide_eq_false (by omega)
          have hd4 : decide (i < i) = false := decide_eq_false (by omega)
          have hall := rowP_all i
          have ownA := own.alloc (.cells #[.int .u64 1] 35)
          have NA := has_news (Has.new wr [.int .u64 1] 35)
          have hrel2 : ∀ sa cap w', w'.ownsRow 0 35 1 (.slice sa (i + 1 + 1) cap) (i + 1 + 1) (u64s ((rowP (i + 1)).take (i + 1)) ++ [.int .u64 1]) → Only (fun k => Value.ownBlock (.slice na (i + 1) nc) = some k) (wr.alloc (.cells #[.int .u64 1] 35)) w' →
              (∀ k, Value.ownBlock (.slice sa (i + 1 + 1) cap) = some k → Value.ownBlock (.slice na (i + 1) nc) = some k ∨ (wr.alloc (.cells #[.int .u64 1] 35)).heap.size ≤ k) →
              w'.ownsRow 0 35 1 (.slice sa (i + 1 + 1) cap) (i + 1 + 1) (u64s (rowP (i + 1))) ∧ Below W.heap.size W w' ∧ (∀ k, Value.ownBlock (.slice sa (i + 1 + 1) cap) = some k → W.heap.size ≤ k) := by
            intro sa cap w' h1 h2 h3
            have e : u64s ((rowP (i + 1)).take (i + 1)) ++ [Value.int .u64 1] = u64s (rowP (i + 1)) := by
              have := u64s_snoc ((rowP (i + 1)).take (i + 1)) 1
              rw [hall] at this; exact this
            rw [e] at h1
            have hs := belI.size
            have hB : Below wq.heap.size wq w' := belI.trans ((((Only.refl (fun k => Value.ownBlock (.slice na (i + 1) nc) = some k) wr).alloc _).trans h2).below hs (fun k _ e => frI k e))
            refine ⟨h1, bel.trans (hB.mono wrs), fun k hk => ?_⟩
            rcases h3 k hk with h | h
            · have := frI k h; omega
            · simp only [World.size_alloc] at h; omega
          have hlt' := hlt.out
          replace hrel2 := Lib.hid hrel2
          replace ownA := Lib.hid ownA
          replace NA := Lib.hid NA
          clear own belI frI rrd fr bel hj hall
          go_wp2_with (at_builtin; refine wpList_app rfl (.tmp 57) (.tmp 58) 38 rfl 35 (.int .u64 0) 1 8 Try.underlying38 info35 rfl (by decide) (by decide) na (i + 1) nc _ ownA.out rfl ⟨wr.heap.size, 0, none⟩ 1 1 [.int .u64 1] rfl rfl NA.out (by simp [Value.oneCell']) (by omega) ?_)
          intro sa cap w5 own5 only5 fresh5
          obtain ⟨n1, n2, n3⟩ := hrel2.out sa cap w5 own5 only5 (fun k hk => (fresh5 k hk).imp id (fun h => by simpa using h))
          clear own5 only5 fresh5
          go_wp2_with fail
          exact ⟨⟨i + 1, sa, cap, by omega, congrArg _ (by omega), rfl, n1, n2, n3⟩, by simp [intOf]; omega⟩
    · obtain rfl : j = x + y := by omega
      have hd1 : decide (((x + y : Nat) : Int) + 1 ≤ (x : Int) + (y : Int)) = false := decide_eq_false (by omega)
      have hd1P : ¬ ((x + y : Nat) : Int) + 1 ≤ (x : Int) + (y : Int) := by omega
      obtain ⟨rb, ro, rcc, ea, fa⟩ := rrd.cells (by omega)
      simp only [Value.slice.injEq, true_and] at ea
      obtain ⟨rfl, ea2⟩ := ea
      have r0 : wq.cell? ⟨rb, ro + x, none⟩ = _ := fa _ _ (u64s_get _ _ _ (rowP_get (x + y) x (by omega)))
      have hcap : cap62 = 4611686018427387905 := rfl
      have hmost : most = 4611686018427387904 := rfl
      obtain ⟨v, hv⟩ : ∃ v, v = min (bin (x + y) x) cap62 := ⟨_, rfl⟩
      rw [← hv] at r0
      rw [hcap] at hv
      obtain ⟨T, hT⟩ : ∃ T, T = x + y := ⟨_, rfl⟩
      rw [← hT] at hd1 hd1P
      have hTI : ((x + y : Nat) : Int) = (T : Int) := by omega
      have hxI : (x : Int) < (T : Int) + 1 := by omega
      have hx0 : (0 : Int) ≤ (x : Int) := by omega
      have hcs' := hcs.out
      rw [hmost] at hcs'
      generalize bin (x + y) x = C at *
      replace ea2 := Lib.hid ea2
      clear fa own rrd fr hcs hlt hj
      have hend : Below W.heap.size W wq := bel
      rcases hcs' with ⟨g1, rfl, rfl⟩ | ⟨g1, rfl, rfl⟩
      · have hvc : v = c1 := by omega
        subst hvc
        have hg : decide ((4611686018427387904 : Int) < (v : Int)) = false := decide_eq_false (by omega)
        replace hv := Lib.hid hv
        replace g1 := Lib.hid g1
        replace hT := Lib.hid hT
        as_aux_lemma =>
          go_wp2_with fail
          go_ret
          exact ⟨rfl, hend⟩
      · have hg : decide ((4611686018427387904 : Int) < (v : Int)) = true := decide_eq_true (by omega)
        replace hv := Lib.hid hv
        replace g1 := Lib.hid g1
        replace hT := Lib.hid hT
        as_aux_lemma =>
          go_wp2_with fail
          go_ret
          exact ⟨rfl, hend⟩
end Go.Proofs.Ytdminbjenbbpaaa
