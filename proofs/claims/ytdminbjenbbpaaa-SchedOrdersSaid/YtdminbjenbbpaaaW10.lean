/- The walk of SchedCounts. -/
import Derived.Test.YtdminbjenbbpaaaG18
import Derived.Test.YtdminbjenbbpaaaS9
import Derived.Test.YtdminbjenbbpaaaG7
import Derived.Deep.RegionLaw
namespace Go.Proofs.Ytdminbjenbbpaaa
open Go.RowKit
attribute [local go_sem] Oper.semAt_some
def cnt1 (z : Int) : Int := z % 8 - 1
def cntm (z : Int) : Int := max z 0
theorem and7 (q : Int) (h : -128 ≤ q ∧ q ≤ 127) : bits BinOp.and IntKind.i64 q 7 = q % 8 := by
  have key : ∀ i : Fin 256, bits BinOp.and IntKind.i64 ((i.val : Int) - 128) 7 = ((i.val : Int) - 128) % 8 := by decide +kernel
  have := key ⟨(q + 128).toNat, by omega⟩
  have e : (((q + 128).toNat : Nat) : Int) - 128 = q := by omega
  simp only [e] at this
  exact this
theorem first_mem (cs : Nat → Nat) : ∀ k, ∀ z ∈ firstL cs k, z < k
  | 0, z, h => absurd h List.not_mem_nil
  | k + 1, z, h => by
    have h' : z ∈ firstL cs k ++ List.replicate (cs k) k := h
    rcases List.mem_append.1 h' with h | h
    · have := first_mem cs k z h; omega
    · have := (List.mem_replicate.1 h).2; omega
theorem firstL_bd (ns : List Int) (h4 : ns.length ≤ 4) (h : ∀ s ∈ ns, s ≤ 6) : (firstL (sz ns) ns.length).length ≤ 4096 := by
  rw [first_len]; have := sz_bound ns (fun s hs => by have := h s hs; omega) ns.length (Nat.le_refl _); omega
set_option maxHeartbeats 4000000 in
set_option maxRecDepth 100000 in
theorem counts_short (a0 : Option Addr) (cap0 : Nat) (zs : List Int) (W : World) (hv : Rd W (.slice a0 zs.length cap0) zs.length (zs.map (.int .i8)))
    (hz : ∀ z ∈ zs, -128 ≤ z ∧ z ≤ 127) (hn : zs.length ≤ 9223372036854775807) :
    Calls Try.prog 10 #[.slice a0 zs.length cap0] W fun e w' => e = .returned (.bool true) ∧ Below W.heap.size W w' := by
  generalize hpost : (fun (e : Ending) w' => e = .returned (.bool true) ∧ Below W.heap.size W w') = post
  replace hpost := Lib.hid hpost
  refine calls_of_marks Try.func10 rfl ?_
  simp only [Try.ntmps10, List.size_toArray, List.length_cons, List.length_nil, Nat.reduceAdd, Nat.reduceSub, Array.replicate_succ, Array.replicate_zero, List.push_toArray, List.append_toArray, List.nil_append, List.cons_append]
  replace hv := Lib.hid hv
  go_wp2_with fail
  refine (awake_any _).mono ?_
  rintro e w1 ⟨rfl, b1⟩
  have hv1 := hv.out.kept b1
  clear hv
  obtain ⟨a', vc', hv0, hvc⟩ := hv1
  simp only [Value.slice.injEq, true_and] at hv0
  obtain ⟨rfl, rfl⟩ := hv0
  go_wp2_with fail
  go_loopw [3, 4] (fun v i wr => ∃ (k : Nat) (sa : Option Addr) (cap : Nat), k ≤ zs.length ∧ k ≤ 4 ∧ i = .int .i64 k ∧ v = .slice sa k cap ∧ wr.ownsRow 0 3 1 (.slice sa k cap) k (((zs.take k).map cnt1).map (.int .i64)) ∧
      Below w1.heap.size w1 wr ∧ (∀ k', Value.ownBlock (.slice sa k cap) = some k' → w1.heap.size ≤ k'))
    (fun _ i _ => 4 - (intOf i).toNat)
  case atStart => exact ⟨0, none, 0, Nat.zero_le _, by omega, rfl, rfl, World.ownsRow_nil _ _ _ _, Below.refl _ _, by simp [Value.ownBlock]⟩
  case round =>
    obtain ⟨k, sa, cap, hk, hk6, rfl, rfl, hown, hB, hob⟩ := hrel
    by_cases hlt : k < zs.length ∧ k < 4
    · obtain ⟨hlt, hlt6⟩ := hlt
      rcases hvc with ⟨hz, _⟩ | ⟨b, off, rfl, hvc⟩
      · omega
      have hc0 := hvc k _ (ints_get zs .i8 k hlt)
      have hc := (hB.cell (p := ⟨b, off + k, none⟩) (by simpa using World.block_lt_of_cell? _ _ hc0)).trans hc0
      clear hc0
      have hsz := hB.size
      have hq1 := hz (zs.getD k 0) (by rw [List.getD, List.getElem?_eq_getElem hlt]; exact List.getElem_mem _)
      generalize hq : zs.getD k 0 = q at *
      have Hq := Lib.hid hq
      clear hq
      have hbits : bits BinOp.and IntKind.i64 q 7 = cnt1 q + 1 := by rw [and7 q hq1]; unfold cnt1; omega
      have hcb : -1 ≤ cnt1 q ∧ cnt1 q ≤ 6 := by unfold cnt1; omega
      have hk4 : decide ((k : Int) < 4) = true := decide_eq_true (by omega)
      obtain ⟨c, hcc⟩ : ∃ c, c = cnt1 q := ⟨_, rfl⟩
      rw [← hcc] at hbits hcb
      have hwc := Lib.hid (show wrap64 c = c by unfold wrap64; omega)
      have hxx : c + 1 - 1 = c := by omega
      replace hcc := Lib.hid hcc
      go_wp2_with (at_builtin; refine wpList_app1 rfl (.tmp 25) (.tmp 33) 23 rfl 3 (.int .i64 0) 8 Try.underlying23 info3 rfl (by decide) sa k cap (((zs.take k).map cnt1).map (.int .i64)) rfl (.int .i64 c) _ wr rfl rfl hown _ rfl rfl rfl (by omega) ?_)
      intro sa' cap' w2 own2 only2 fresh2
      go_wp2_with fail
      go_roundw
      case rel =>
        refine ⟨k + 1, sa', cap', by omega, by omega, by go_num, rfl, ?_, hB.trans (only2.below (B := w1.heap.size) hsz (fun b _ hb => hob b hb)), ?_⟩
        · rw [take_getD zs k 0 hlt, Hq.out]; rw [hcc.out] at own2; simpa using own2
        · intro b hb
          rcases fresh2 b hb with h1 | h1
          · exact hob b h1
          · omega
      case measure => simp [intOf]; omega
    · have htk : zs.take k = zs.take 4 := by
        by_cases h6 : k = 4
        · rw [h6]
        · rw [List.take_of_length_le (by omega), List.take_of_length_le (by omega)]
      have hlen : ((zs.take 4).map cnt1).length = k := by simp; omega
      rw [htk] at hown
      have hbd : ∀ s ∈ (zs.take 4).map cnt1, -1 ≤ s ∧ s ≤ 6 := by
        intro s hs
        obtain ⟨z, _, rfl⟩ := List.mem_map.1 hs
        unfold cnt1; omega
      have hl4 : ((zs.take 4).map cnt1).length ≤ 4 := by omega
      have B1 := b1.trans (hB.mono b1.size)
      have hend : decide ((k : Int) < (zs.length : Int)) = false ∨ (decide ((k : Int) < (zs.length : Int)) = true ∧ decide ((k : Int) < 4) = false) := by
        by_cases h6 : k < zs.length
        · exact .inr ⟨decide_eq_true (by omega), decide_eq_false (by omega)⟩
        · exact .inl (decide_eq_false (by omega))
      generalize (zs.take 4).map cnt1 = ns at *
      obtain rfl := hlen
      clear hvc htk b1 hB
      have hRn := Rd.of_own hown
      have hnlt : ∀ k, Value.ownBlock (.slice sa ns.length cap) = some k → k < wr.heap.size := fun k hk => ownsRow_lt hown hk
      obtain ⟨w2, hw2⟩ : ∃ w2, w2 = wr := ⟨_, rfl⟩
      rw [← hw2] at hRn hnlt B1
      obtain ⟨a2, c2, hv2, hvn⟩ := id hRn
      simp only [Value.slice.injEq, true_and] at hv2
      obtain ⟨rfl, rfl⟩ := hv2
      replace hRn := Lib.hid hRn
      replace hbd := Lib.hid hbd
      by_cases h6 : ns.length < zs.length
      all_goals
        clear hob hown
        subst hw2
        go_wp2_with fail
        go_loopw [5, 37] (fun v i wr => ∃ (k : Nat) (sb : Option Addr) (cb : Nat), k ≤ ns.length ∧ i = .int .i64 k ∧ v = .slice sb k cb ∧ wr.ownsRow 0 3 1 (.slice sb k cb) k (((ns.take k).map cntm).map (.int .i64)) ∧
            Below w2.heap.size w2 wr ∧ (∀ k', Value.ownBlock (.slice sb k cb) = some k' → w2.heap.size ≤ k'))
          (fun _ i _ => ns.length - (intOf i).toNat)
        case atStart => exact ⟨0, none, 0, Nat.zero_le _, rfl, rfl, World.ownsRow_nil _ _ _ _, Below.refl _ _, by simp [Value.ownBlock]⟩
        case round =>
          obtain ⟨k, sb, cb, hk, rfl, rfl, hown, hB, hob⟩ := hrel
          have hsz := hB.size
          by_cases hlt : k < ns.length
          · have hkI : decide ((k : Int) < (ns.length : Int)) = true := decide_eq_true (by omega)
            have hkN : decide (k < ns.length) = true := decide_eq_true hlt
            have hk0 : (0 : Int) ≤ (k : Int) := by omega
            rcases hvn with ⟨hz, _⟩ | ⟨b, off, rfl, hvn⟩
            · omega
            have hc0 := hvn k _ (ints_get ns .i64 k hlt)
            have hc := (hB.cell (p := ⟨b, off + k, none⟩) (by simpa using World.block_lt_of_cell? _ _ hc0)).trans hc0
            clear hc0
            have hq1 := hbd.out (ns.getD k 0) (by rw [List.getD, List.getElem?_eq_getElem hlt]; exact List.getElem_mem _)
            generalize hq : ns.getD k 0 = q at *
            have Hq := Lib.hid hq
            clear hq
            obtain ⟨c, hcc⟩ : ∃ c, c = cntm q := ⟨_, rfl⟩
            have hmx : max q 0 = c := by rw [hcc]; rfl
            have hm2 : (if q < 0 then (0 : Int) else q) = c := by rw [hcc]; unfold cntm; by_cases h : q < 0 <;> simp [h] <;> omega
            have hm3 : (if (0 : Int) < q then q else 0) = c := by rw [hcc]; unfold cntm; by_cases h : (0 : Int) < q <;> simp [h] <;> omega
            replace hcc := Lib.hid hcc
            replace hB := Lib.hid hB
            replace hob := Lib.hid hob
            clear hvn
            go_wp2_with (at_builtin; refine wpList_app1 rfl (.tmp 41) (.tmp 44) 23 rfl 3 (.int .i64 0) 8 Try.underlying23 info3 rfl (by decide) sb k cb (((ns.take k).map cntm).map (.int .i64)) rfl (.int .i64 c) _ wr rfl rfl hown _ rfl rfl rfl (by omega) ?_)
            intro sa' cap' w3 own2 only2 fresh2
            go_wp2_with fail
            refine ⟨⟨k + 1, sa', cap', by omega, rfl, rfl, ?_, hB.out.trans (only2.below (B := w2.heap.size) hsz (fun b _ hb => hob.out b hb)), ?_⟩, by simp [intOf]; omega⟩
            · rw [take_getD ns k 0 hlt, Hq.out]; rw [hcc.out] at own2; simpa using own2
            · intro b hb
              rcases fresh2 b hb with h1 | h1
              · exact hob.out b h1
              · omega
          · obtain rfl : k = ns.length := by omega
            have hcr := count_rem ns hl4 (fun s hs => (hbd.out s hs).2)
            have hcs := count_small ns hl4 (fun s hs => (hbd.out s hs).2)
            obtain ⟨C, hC⟩ : ∃ C, C = (countV ns).1 := ⟨_, rfl⟩
            have hCr : C = refP (ns.map Int.toNat) := by rw [hC, hcs]
            have hCm : C = rem ns.length (firstL (sz ns) ns.length) + 1 := by rw [hC]; exact hcr.1
            have hms : (ns.take ns.length).map cntm = (ns.map Int.toNat).map (fun (n : Nat) => (n : Int)) := by
              rw [List.take_length, List.map_map]
              apply List.map_congr_left
              intro s _
              show max s 0 = ((s.toNat : Nat) : Int)
              omega
            have hcnt : ∀ d, Calls Try.prog 17 #[.slice sa ns.length cap] (wr.drewN d) fun e w' => e = .returned (.tuple #[.int .u64 (C : Int), .bool true]) ∧ ∃ m, (wr.drewN d).drewN m = w' := fun d => by
              refine (count_any ns (.slice sa ns.length cap) (wr.drewN d) ((hRn.out.kept hB).drewN d) (by omega) (fun s hs => by have := hbd.out s hs; omega)).mono ?_
              rintro e w' ⟨rfl, h⟩
              exact ⟨by rw [← hC, hcr.2], h⟩
            have hrc := fun d => refcount_any (ns.map Int.toNat) (.slice sb ns.length cb) (wr.drewN d) (by
              have := (Rd.of_own hown).drewN d
              rw [hms, List.map_map] at this
              rw [List.length_map]; exact this) (by rw [List.length_map]; exact hl4) (fun s hs => by
                obtain ⟨x, hx, rfl⟩ := List.mem_map.1 hs
                have := hbd.out x hx; omega)
            rw [← hCr] at hrc
            have hint := fun w' (h : Below w2.heap.size w2 w') => inter_any ns (.slice sa ns.length cap) 400 w' (hRn.out.kept h) (by omega)
            have B3 := B1.trans (hB.mono B1.size)
            have hCb : C ≤ 4611686018427387904 := by
              rw [hC]; unfold countV; split
              · rename_i h; exact h
              · exact Nat.le_refl _
            replace hcnt := Lib.hid hcnt
            replace hrc := Lib.hid hrc
            replace hint := Lib.hid hint
            replace hC := Lib.hid hC
            replace hCr := Lib.hid hCr
            replace hCm := Lib.hid hCm
            replace B3 := Lib.hid B3
            replace hB := Lib.hid hB
            clear hob hown hms hcr hcs hvn
            go_wp2_with (refine (hcnt.out 0).mono ?_; rintro e w4 ⟨rfl, d4, rfl⟩)
            refine (hrc.out d4).mono ?_
            rintro e w5 ⟨rfl, rfl⟩
            obtain ⟨w6, hw6⟩ : ∃ w6, w6 = wr.drewN d4 := ⟨_, rfl⟩
            have B6 : Below w2.heap.size w2 w6 := by rw [hw6]; exact below_drewN d4 _ hB.out
            have B6W : Below W.heap.size W w6 := by rw [hw6]; exact below_drewN d4 _ B3.out
            rw [← hw6]
            have hbx : Boxed (w6.alloc (.cells #[.int .u64 0] 35)) w6.heap.size 35 (.int .u64 0) := Boxed.new w6 35 _
            have B7 := B6.alloc B6.size (.cells #[.int .u64 0] 35)
            have B7W := B6W.alloc B6W.size (.cells #[.int .u64 0] 35)
            have hs6 := B6W.size
            replace hw6 := Lib.hid hw6
            replace B7 := Lib.hid B7
            replace B7W := Lib.hid B7W
            replace hbx := Lib.hid hbx
            clear hcnt hrc B6 B6W hB B3
            go_wp2_with (refine (hint.out _ B7.out).mono ?_; rintro e w8 ⟨bl, bs, v8, rfl, hl8, hv8, hr8, B8, hbl8⟩)
            have hbx8 : Boxed w8 w6.heap.size 35 (.int .u64 0) := (B8.block _ (by simp)).trans hbx.out
            have hbs : w6.heap.size < bl := by simp at hbl8; omega
            have hbl8' := World.block_lt_of_cell? _ _ hl8
            have B8W : Below W.heap.size W w8 := B7W.out.trans (B8.mono B7W.out.size)
            have hseq : ∀ Wx, Below w8.heap.size w8 Wx → SeqOwn Fence.wide 2 Try.prog 44 #[.pointer (some ⟨bl, 0, none⟩), .pointer (some ⟨bs, 0, none⟩)] (fun x : Value × List Nat => #[x.1]) (fun k => k = bl)
                (GivI w8.heap.size (firstL (sz ns) ns.length)) (SeqsI ns.length 400 (firstL (sz ns) ns.length)) (fun _ => True) 400 Wx := fun Wx h =>
              inter_own 2 bl bs w8.heap.size ns.length 400 ns v8 Wx h.size (by omega) ((h.cell hbl8').trans hl8) ((h.cell (World.block_lt_of_cell? _ _ hv8)).trans hv8) (hr8.kept h) (by omega) (fun s hs => by have := hbd.out s hs; omega)
                (firstL_bd ns hl4 (fun s hs => (hbd.out s hs).2)) (first_mem _ _)
            generalize firstL (sz ns) ns.length = L0 at *
            have hcell8 : w8.cell? ⟨w6.heap.size, 0, none⟩ = some (.int .u64 0) := hbx8.cell
            have hfr8 : w8.frozen? ⟨w6.heap.size, 0, none⟩ = false := hbx8.frozen
            have hs8 : w6.heap.size < w8.heap.size := World.block_lt_of_cell? _ _ hcell8
            have hWs : W.heap.size ≤ w8.heap.size := B8W.size
            refine wp_rangeFunc_roll1 (gf := 44) (lb := #[.pointer (some ⟨bl, 0, none⟩), .pointer (some ⟨bs, 0, none⟩)]) rfl (enters_of Try.func44 (by kernel_rfl) rfl) hseq (fun k hk => by rw [hk]; exact hbl8') ?hGiv
              (fun c pre A => A.cell? ⟨w6.heap.size, 0, none⟩ = some (.int .u64 (pre.length : Int)) ∧ A.frozen? ⟨w6.heap.size, 0, none⟩ = false ∧ Below W.heap.size W A)
              (fun _ _ _ _ => False) ?hI (fun _ _ _ _ _ _ h _ => h) (fun c _ => ⟨hcell8, hfr8, B8W⟩) ?body ?done ?stop
            case hGiv =>
              rintro c pre x A l o o' hl ho hcl ⟨h1, h6, B, h2, h5, h3, h4⟩
              exact ⟨h1, h6, B, h2, Nat.le_trans h5 (grownBy_putObj' A l o').size, h3, own_putObj o' h4 ho hcl⟩
            case hI =>
              rintro c pre A E hc ⟨h1, h2, h3⟩ hr
              have hn : ¬ c w6.heap.size := fun e => by have := hc _ e; omega
              exact ⟨hr.cell hn h1, hr.frozen hn h1 h2, hr.below hc hWs h3 (Nat.le_refl _)⟩
            case body =>
              rintro l c pre x A hc ⟨h1, h2, h3⟩ _ hlen
              have hw : IntKind.u64.wrap ((pre.length : Int) + 1) = ((pre.length + 1 : Nat) : Int) := by
                rw [show (pre.length : Int) + 1 = ((pre.length + 1 : Nat) : Int) by omega]; exact u64w _ (by omega)
              replace hw := Lib.hid hw
              gi_wp2
              have hne : ¬ (c w6.heap.size ∨ w6.heap.size = bl) := fun e => by
                rcases e with e | e
                · have := hc _ e; omega
                · omega
              refine ⟨(KeepsOthers.setCell _ _ _).from _, (KeepB.refl _ _).setCell _ hne, ?_, ?_, ?_⟩
              · rw [World.cell?_setCell_same' _ _ _ (by rw [h1]; rfl), List.length_append, List.length_singleton]
                first | rw [hw.out] | rfl
              · rw [World.frozen?_setCell]; exact h2
              · exact h3.setCell (p := ⟨w6.heap.size, 0, none⟩) (by omega) _
            case done =>
              intro D c xs A hD hc hS h hK
              obtain ⟨h1, h2, h3⟩ := h
              have hlen := hS.1
              have hCm' := hCm.out
              obtain ⟨S, hSe⟩ : ∃ S : Nat, S = xs.length := ⟨_, rfl⟩
              rw [← hSe] at hlen h1
              have hSC : S = min 400 C := by rw [hCm', hlen]; rfl
              have hmin : min (C : Int) 400 = (S : Int) := by omega
              have hmif : (if (400 : Int) < (C : Int) then (400 : Int) else (C : Int)) = (S : Int) := by
                by_cases h : (400 : Int) < (C : Int)
                · rw [if_pos h]; omega
                · rw [if_neg h]; omega
              have A40 := Has.new A [.int .i64 40, .int .i64 40, .int .i64 40] 3
              have hc40 : Calls Try.prog 17 #[.slice (some ⟨A.heap.size, 0, none⟩) 3 3] (A.alloc (.cells #[.int .i64 40, .int .i64 40, .int .i64 40] 3)) fun e w' => e = .returned (.tuple #[.int .u64 4611686018427387904, .bool false]) ∧ ∃ m, (A.alloc (.cells #[.int .i64 40, .int .i64 40, .int .i64 40] 3)).drewN m = w' := by
                refine (count_any [40, 40, 40] _ _ (Rd.of_has A40 3 3) (by decide) (by intro s hs; simp only [List.mem_cons, List.not_mem_nil, or_false] at hs; omega)).mono ?_
                rintro e w' ⟨rfl, h⟩
                rw [count40]
                exact ⟨rfl, h⟩
              have c1 : (A.alloc (.cells #[.int .i64 40, .int .i64 40, .int .i64 40] 3)).cell? ⟨w6.heap.size, 0, none⟩ = some (.int .u64 (S : Int)) := ((Below.refl A.heap.size A).alloc (Nat.le_refl _) _).cell (World.block_lt_of_cell? _ _ h1) |>.trans h1
              have B9 := h3.alloc h3.size (.cells #[.int .i64 40, .int .i64 40, .int .i64 40] 3)
              have hK9 : (A.alloc (.cells #[.int .i64 40, .int .i64 40, .int .i64 40] 3)).heap[D]? = some (.deferred (some [])) := (Below.heap_alloc _ _ _ (Array.getElem?_eq_some_iff.1 hK).1).trans hK
              replace hc40 := Lib.hid hc40
              replace hSC := Lib.hid hSC
              replace hSe := Lib.hid hSe
              replace hCm := Lib.hid hCm
              replace B9 := Lib.hid B9
              replace hK9 := Lib.hid hK9
              clear hlen hCm' A40 h1 h2 h3 hS hseq hK hbd hRn
              go_wp2_with (refine hc40.out.mono ?_; rintro e w9 ⟨rfl, d9, rfl⟩)
              have hB10 := below_drewN d9 _ B9.out
              have hK10 : ((A.alloc (.cells #[.int .i64 40, .int .i64 40, .int .i64 40] 3)).drewN d9).heap[D]? = some (.deferred (some [])) := hK9.out
              refine ⟨by simp, .inl ⟨_, _, rfl, run_takeDeferred hK10, ?_⟩⟩
              refine ⟨_, results_tmp rfl _ _ _, ?_⟩
              rw [← hpost.out]
              exact ⟨rfl, hB10.trans (belowK_b (w := w8) hWs _ D _ _ hD hK10 rfl rfl)⟩
            case stop =>
              intro D c j pre A _ _ _ h _
              exact h.elim
theorem counts_walk (a0 : Option Addr) (len0 cap0 : Nat) (z0 : List Int) (w : World) (w0 : IsRow .i8 w a0 len0 cap0 z0) :
    Calls Try.prog 10 #[.slice a0 len0 cap0] w fun e w' => e = .returned (.bool true) ∧ Below w.heap.size w w' := by
  obtain ⟨ys0, rfl, _, r0, b0, l0⟩ := w0.rd
  exact counts_short a0 cap0 ys0 w r0 (fun z hz => bounds_i8 (b0 z hz)) l0
end Go.Proofs.Ytdminbjenbbpaaa
