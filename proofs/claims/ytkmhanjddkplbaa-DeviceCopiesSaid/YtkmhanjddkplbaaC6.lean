/- The reference's device: Copy. -/
import Derived.Test.YtkmhanjddkplbaaC5
import Derived.Test.YtkmhanjddkplbaaF2
import Derived.Deep.WholeRow
namespace Go.Proofs.Ytkmhanjddkplbaa
open Go.RowKit Go.Maps
variable {w w' : World} {F F' : Own} {o o2 h T c : Nat} {R : Dv}

theorem has_news {b : Nat} {cs : List Value} {E : TypeId} (hh : Has w b cs E) : ∀ j u, cs[j]? = some u → w.cell? ((⟨b, 0, none⟩ : Addr).add j) = some u := fun j u hj => by rw [add_zero']; exact hh.cell hj
def zeroRef : Array Value := #[.slice none 0 0, .slice none 0 0, .slice none 0 0, .slice none 0 0, .slice none 0 0, .slice none 0 0, .slice none 0 0, .slice none 0 0, .slice none 0 0, .int .i64 0, .int .i64 0, .int .i64 0, .int .i64 0, .int .i64 0, .int .i64 0, .int .i64 0, .int .i64 0, .int .i64 0, .bool false, .int .u64 0]
theorem notes_le (hok : R.Ok T) {t : Nat} (ht : t < 8) : (R.notes.getD t []).length ≤ 4096 := by
  have hn2 := hok.n2
  have h6 : ∀ x ∈ (R.notes.getD t []).map Prod.fst, x ∈ List.range 4096 := by
    intro x hx
    obtain ⟨y, hy, rfl⟩ := List.mem_map.1 hx
    have := (hok.no t ht y hy).1
    simp; omega
  have := List.Nodup.length_le_of_subset (hok.nd t ht) h6
  simpa using this
/-- A struct's cells, loaded as one value. -/
theorem ref_load {cs : List Value} (hh : Has w h cs 84) (hl : cs.length = 20) : (Instr.loadAt 84 (.pointer (some ⟨h, 0, none⟩))).run Try.prog w = .ok (.agg cs.toArray) w := by
  have h2 := run_loadCells_list (P := Try.prog) w ⟨h, 0, none⟩ cs (fun j v hv => has_news hh j v hv)
  rw [hl] at h2
  simp only [Instr.loadAt, Instr.sureAddr, loadVar, Sem.run_bind, Sem.run_pure, Result.andThen_ok, Try.isAgg84, Try.sizeOf84, if_true, h2]
theorem infoRef : (Try.prog.info? 84).map (·.size) = some 20 := by kernel_rfl
/-- .. and stored into a new variable. -/
theorem ref_store (w : World) (cs : List Value) (hl : cs.length = 20) (h1 : ∀ v ∈ cs, v.oneCell' = true) :
    (Instr.storeAt 84 (.pointer (some ⟨w.heap.size, 0, none⟩)) (.agg cs.toArray)).run Try.prog (w.alloc (.cells zeroRef 84)) = .ok () (w.alloc (.cells cs.toArray 84)) :=
  run_storeAt_new (P := Try.prog) w 84 zeroRef cs.toArray (by rw [infoRef]; simp [hl]) (by simp [hl, zeroRef]) (by simpa using h1)
theorem lnCells_one (l : Ln) (v : Value) (hv : v.oneCell' = true) : ∀ u ∈ lnCells l v, u.oneCell' = true := by
  intro u hu
  simp only [lnCells, List.mem_cons, List.not_mem_nil, or_false] at hu
  rcases hu with rfl | rfl | rfl | rfl | rfl | rfl | rfl | rfl | rfl | rfl
  all_goals first | exact hv | rfl
theorem ref_one {lb0 lc0 : Nat} {ns : Nat → Value} (hNot : ∀ wx, Below w.heap.size w wx → ∀ t, t < 8 → ∃ va vc, wx.cell? ⟨h, 1 + t, none⟩ = some (.slice va (R.notes.getD t []).length vc) ∧ ns t = .slice va (R.notes.getD t []).length vc ∧ Rd wx (.slice va (R.notes.getD t []).length vc) (R.notes.getD t []).length (noteCells (R.notes.getD t []))) :
    ∀ v ∈ refCells lb0 lc0 ns R, v.oneCell' = true := by
  have hn : ∀ t, t < 8 → (ns t).oneCell' = true := fun t ht => by
    obtain ⟨a, c, _, e, _⟩ := hNot w (Below.refl _ _) t ht; rw [e]; rfl
  intro v hv
  simp only [refCells, List.mem_cons, List.not_mem_nil, or_false] at hv
  rcases hv with rfl | rfl | rfl | rfl | rfl | rfl | rfl | rfl | rfl | rfl | rfl | rfl | rfl | rfl | rfl | rfl | rfl | rfl | rfl | rfl
  · rfl
  all_goals first | exact hn _ (by omega) | rfl
theorem Rc1.start (hr : RefSt w F o h T R) {cells : List Value} (tl : List Value) (hc : cells = .slice none 0 0 :: tl) :
    Rc1 w F o h T R o2 w.heap.size tl 0 none 0 [] (w.alloc (.cells cells.toArray 84)) := by
  subst hc
  let F' : Own := fun k => if k < w.heap.size then F k else if k = w.heap.size then some (o2, 0, 0) else none
  have hx : Ext w F F' := fun k hk => if_pos hk
  have hO : Only (fun _ => False) w (w.alloc (.cells (Value.slice none 0 0 :: tl).toArray 84)) := (Only.refl (fun _ => False) w).alloc _
  have hnone : ∀ k, Value.ownBlock (.slice none 0 0) = some k → False := fun k hk => by cases hk
  refine ⟨⟨F', fun _ => .slice none 0 0, hr.kept hO hx (fun _ _ s => s.elim), ?_, fun k hk => (hnone k hk).elim, fun j hj => absurd hj (Nat.not_lt_zero j), hx⟩, Has.new w _ 84, World.ownsRow_nil _ _ _ _, fun k hk => (hnone k hk).elim, Nat.le_refl _, hO.below (Nat.le_refl _) (fun k _ s => s.elim)⟩
  simp only [F', if_neg (Nat.lt_irrefl _), if_true]
/-- A load of a whole struct as a step of the walk. -/
theorem wpList_loadA {P : Program} {w : World} {ops : Array Oper} {rest : List Oper} {o : Oper} {a : Act} {Q : Exit → Act → World → Prop} (hgd : o.guard = none) (x : Operand) (t : TypeId)
    (ho : o.op = .load t x) (v : Value) (hrun : (Instr.loadAt t (a.eval x)).run P w = .ok v w) (h : wpList P ops Q rest (a.put o.dst v) w) : wpList P ops Q (o :: rest) a w := by
  refine wpList_plain hgd fun K hK => ?_
  unfold Oper.wp execOp
  simp only [ho, Sem.run_bind, Sem.run_pure, Result.andThen_ok, hrun]
  exact hK _ _ h
/-- A store of a whole struct. -/
theorem wpList_storeA {P : Program} {w w' : World} {ops : Array Oper} {rest : List Oper} {o : Oper} {a : Act} {Q : Exit → Act → World → Prop} (hgd : o.guard = none) (x y : Operand) (t : TypeId)
    (ho : o.op = .store t x y) (hd : o.dst = none) (hrun : (Instr.storeAt t (a.eval x) (a.eval y)).run P w = .ok () w') (h : wpList P ops Q rest a w') : wpList P ops Q (o :: rest) a w := by
  refine wpList_plain hgd fun K hK => ?_
  unfold Oper.wp execOp
  simp only [ho, Sem.run_bind, Sem.run_pure, Result.andThen_ok, hrun]
  exact hK _ _ (by rw [hd]; exact h)
variable {tl cs : List Value} {i cap : Nat} {a : Option Addr} {wr : World}
theorem Rc1.round (hp : Rc1 w F o h T R o2 c tl i a cap cs wr) (hn : o ≠ o2) {X Y Z : Obj} {sa a2 : Option Addr} {cap1 cap2 : Nat} {wC wF : World}
    (hcap1 : (R.line i).hist.length ≤ cap1)
    (own1 : wC.ownsRow 0 126 2 (.slice sa (R.line i).hist.length cap1) (R.line i).hist.length (wcells (R.line i).hist))
    (only1 : Only (fun k => k = wr.heap.size + 1) ((wr.alloc X).alloc Y) wC) (fresh1 : ∀ k, Value.ownBlock (.slice sa (R.line i).hist.length cap1) = some k → wr.heap.size + 1 ≤ k)
    (ownF : wF.ownsRow 0 78 10 (.slice a2 (i + 1) cap2) (i + 1) (cs ++ lnCells (R.line i) (.slice sa (R.line i).hist.length cap1)))
    (onlyF : Only (fun k => Value.ownBlock (.slice a i cap) = some k) ((wC.setCell ⟨wr.heap.size, 8, none⟩ (.slice sa (R.line i).hist.length cap1)).alloc Z) wF)
    (freshF : ∀ k, Value.ownBlock (.slice a2 (i + 1) cap2) = some k → Value.ownBlock (.slice a i cap) = some k ∨ ((wC.setCell ⟨wr.heap.size, 8, none⟩ (.slice sa (R.line i).hist.length cap1)).alloc Z).heap.size ≤ k) :
    Rc1 w F o h T R o2 c tl (i + 1) a2 cap2 (cs ++ lnCells (R.line i) (.slice sa (R.line i).hist.length cap1)) (wF.setCell ⟨c, 0, none⟩ (.slice a2 (i + 1) cap2)) := by
  have s1 := only1.size
  simp only [World.size_alloc] at s1
  have sF := onlyF.size
  simp only [World.size_alloc] at sF
  have sE : ((wC.setCell ⟨wr.heap.size, 8, none⟩ (.slice sa (R.line i).hist.length cap1)).alloc Z).heap.size = wC.heap.size + 1 := by simp
  have hal : ∀ k, Value.ownBlock (.slice a i cap) = some k → k < wr.heap.size := fun k hk => ownsRow_lt hp.row hk
  have hsl : ∀ k, Value.ownBlock (.slice sa (R.line i).hist.length cap1) = some k → k < wC.heap.size := fun k hk => ownsRow_lt own1 hk
  have O1 : Only (fun k => Value.ownBlock (.slice a i cap) = some k) wr wC := (((Only.refl (fun _ => False) wr).alloc X).alloc Y).trans' only1 (fun k hk s => by omega) |>.mono (fun _ _ s => s.elim)
  have O2 : Only (fun k => Value.ownBlock (.slice a i cap) = some k) wr ((wC.setCell ⟨wr.heap.size, 8, none⟩ (.slice sa (R.line i).hist.length cap1)).alloc Z) :=
    (Only.setCell (S := fun k => Value.ownBlock (.slice a i cap) = some k) O1 (a := ⟨wr.heap.size, 8, none⟩) (fun hk => absurd hk (Nat.lt_irrefl _)) _).alloc Z
  refine hp.step hn (O2.trans onlyF) ownF (fun k hk => ?_) ?_ (fun k hk => ?_) (own_cap own1)
  · rcases freshF k hk with h | h
    · exact .inl h
    · exact .inr (by omega)
  · have r1 := (Rd.of_own own1).only (Only.setAt wC wr.heap.size 8 (.slice sa (R.line i).hist.length cap1)) (fun k hk e => by have := fresh1 k hk; omega)
    have r2 := r1.only ((Only.refl (fun _ => False) _).alloc Z) (fun _ _ s => s)
    exact r2.only onlyF (fun k hk e => by have := hal k e; have := fresh1 k hk; omega)
  · have := fresh1 k hk
    refine ⟨by omega, fun e => ?_⟩
    rcases freshF k e with h | h
    · have := hal k h; omega
    · have := hsl k hk; omega
set_option maxHeartbeats 8000000 in
set_option maxRecDepth 100000 in
theorem rcopy_any (hr : RefSt w F o h T R) (hn : o ≠ o2) : Calls Try.prog 48 #[.pointer (some ⟨h, 0, none⟩)] w (RCopyPost w F o h o2 T R) := by
  generalize hpost : RCopyPost w F o h o2 T R = post
  have hok := hr.ok
  have n1 := hok.n1
  have n2 := hok.n2
  obtain ⟨lb0, lc0, ns, h1, h2, h3, h4⟩ := hr.ex
  have S0 := Rc1.start (o2 := o2) hr (cells := (refCells lb0 lc0 ns R).set 0 (.slice none 0 0)) (refCells lb0 lc0 ns R).tail rfl
  have hlt1 := h1.lt
  have hlb : lb0 < w.heap.size := h2.lbl
  have g0 := h1.alloc (.cells ((refCells lb0 lc0 ns R).set 0 (.slice none 0 0)).toArray 84)
  have e0 := g0.cell (o := 0) rfl
  have hRow : ∀ wx, Below w.heap.size w wx → ∀ k, k < R.lines.length → ∃ va vc, LineCells wx lb0 k (R.line k) (.slice va (R.line k).hist.length vc) ∧ Rd wx (.slice va (R.line k).hist.length vc) (R.line k).hist.length (wcells (R.line k).hist) := by
    intro wx hB k hk
    obtain ⟨va, vc, x1, x2⟩ := h2.cells hk
    exact ⟨va, vc, x1.only (Only.of_below hB) (Nat.not_le.2 hlb), x2.1.kept hB⟩
  have hNot : ∀ wx, Below w.heap.size w wx → ∀ t, t < 8 → ∃ va vc, wx.cell? ⟨h, 1 + t, none⟩ = some (.slice va (R.notes.getD t []).length vc) ∧ ns t = .slice va (R.notes.getD t []).length vc ∧ Rd wx (.slice va (R.notes.getD t []).length vc) (R.notes.getD t []).length (noteCells (R.notes.getD t [])) := by
    intro wx hB t ht
    have q := (h4 t ht).1.kept hB
    obtain ⟨va, vc, hv, _⟩ := q
    have q := (h4 t ht).1.kept hB
    rw [hv] at q
    have := (h1.only (Only.of_below hB) (Nat.not_le.2 hlt1)).cell (refCells_note lb0 lc0 ns R t ht)
    rw [hv] at this
    exact ⟨va, vc, this, hv, q⟩
  have hLn : ∀ k, k < R.lines.length → (R.line k).hist.length ≤ 100000 := fun k hk => by have := (hok.ln k hk).hl; have := hok.t; omega
  have hNl : ∀ t, t < 8 → (R.notes.getD t []).length ≤ 100000 := fun t ht => by
    have h := notes_le hok ht; omega
  have hcells : (refCells lb0 lc0 ns R).tail = (refCells 0 0 ns R).tail := rfl
  rw [hcells] at S0
  have hone : ∀ v ∈ refCells lb0 lc0 ns R, v.oneCell' = true := ref_one hNot
  have hLd := ref_load h1 rfl
  have hSt := ref_store w (refCells lb0 lc0 ns R) rfl hone
  have z0 := (Has.new w (refCells lb0 lc0 ns R) 84).cell (o := 0) rfl
  have hlen : (refCells lb0 lc0 ns R).length = 20 := rfl
  generalize hQ : (refCells 0 0 ns R).tail = tl at *
  generalize refCells lb0 lc0 ns R = cl at *
  replace hQ := Lib.hid hQ
  replace hRow := Lib.hid hRow
  replace hNot := Lib.hid hNot
  replace hLn := Lib.hid hLn
  replace hNl := Lib.hid hNl
  replace hpost := Lib.hid hpost
  replace hr := Lib.hid hr
  replace hok := Lib.hid hok
  clear h1 h2 h3 h4 g0 hcells hone
  replace hLd := Lib.hid hLd
  replace hSt := Lib.hid hSt
  go_enter Try.func48, Try.ntmps48
  go_wp2_with (first | (refine wpList_loadA rfl (.tmp 8) 84 rfl _ hLd.out ?_) | (refine wpList_storeA rfl (.tmp 3) (.tmp 9) 84 rfl rfl hSt.out ?_))
  clear hLd hSt z0 hlen e0
  go_loopw [16] (fun v wr => ∃ (i : Nat) (a : Option Addr) (cap : Nat) (cs : List Value), i ≤ R.lines.length ∧ v = .int .i64 i ∧ Rc1 w F o h T R o2 w.heap.size tl i a cap cs wr) (fun v _ => R.lines.length - (intOf v).toNat)
  case atStart => exact ⟨0, none, 0, [], Nat.zero_le _, rfl, S0⟩
  case round =>
    clear S0
    obtain ⟨i, a, cap, cs, hi, rfl, S0⟩ := hrel
    by_cases hlt : i < R.lines.length
    · have hiI : (i : Int) < (R.lines.length : Int) := by omega
      have hi0 : (0 : Int) ≤ (i : Int) := by omega
      have hm := hLn.out i hlt
      obtain ⟨va, vc, lc, hrd⟩ := hRow.out wr S0.b i hlt
      have c0 := lc.c0
      have c1 := lc.c1
      have c2 := lc.c2
      have c3 := lc.c3
      have c4 := lc.c4
      have c5 := lc.c5
      have c6 := lc.c6
      have c7 := lc.c7
      have c8 := lc.c8
      have c9 := lc.c9
      have hround := fun wC wF sa cap1 a2 cap2 X Y Z => S0.round (wC := wC) (wF := wF) (sa := sa) (cap1 := cap1) (a2 := a2) (cap2 := cap2) (X := X) (Y := Y) (Z := Z) hn
      have hdev := S0.dev
      have hrow := S0.row
      have hcl := hdev.lt
      have hal : ∀ k, Value.ownBlock (.slice a i cap) = some k → k < wr.heap.size := fun k hk => ownsRow_lt hrow hk
      have hac : Value.ownBlock (.slice a i cap) = some w.heap.size → False := fun e => by
        obtain ⟨Fr, hv, _, q2, q3, _⟩ := S0.ex
        have := q3 _ e
        rw [q2] at this; cases this
      have hbx := (Has.new wr (lnCells (R.line i) (.slice va (R.line i).hist.length vc)) 78).alloc (.cells #[] 126)
      have b8 := hbx.cell (o := 8) rfl
      have hE := own_empty (wr.alloc (.cells (lnCells (R.line i) (.slice va (R.line i).hist.length vc)).toArray 78)) 126 2
      have hrdB := (hrd.kept ((Below.refl wr.heap.size wr).alloc (Nat.le_refl _) (.cells (lnCells (R.line i) (.slice va (R.line i).hist.length vc)).toArray 78))).kept ((Below.refl _ _).alloc (Nat.le_refl _) (.cells #[] 126))
      unfold lnCells at b8 hE hrdB hbx
      have hbs : (wr.alloc (.cells (lnCells (R.line i) (.slice va (R.line i).hist.length vc)).toArray 78)).heap.size = wr.heap.size + 1 := World.size_alloc _ _
      unfold lnCells at hbs
      rw [hbs] at hE
      replace hround := Lib.hid hround
      replace hrow := Lib.hid hrow
      replace hal := Lib.hid hal
      replace hbx := Lib.hid hbx
      clear hrd lc S0
      go_wp2_with (at_builtin; refine wpList_appAll rfl (.tmp 20) (.tmp 22) 76 rfl 126 (.agg #[.int .u64 0, .int .u64 0]) 2 16 Try.underlying76 infoRW rfl (by decide) (by decide) _ 0 0 (Nat.le_refl _) [] hE rfl _ (R.line i).hist.length vc (wcells (R.line i).hist) rfl hrdB (wcells_len _) (wcells_one _) (by omega) ?_)
      intro sa cap1 w1 hcap1 own1 only1 fresh1
      try simp only [Nat.zero_add, List.nil_append] at hcap1
      try simp only [Nat.zero_add, List.nil_append] at own1
      try simp only [Nat.zero_add, List.nil_append] at fresh1
      have only2 : Only (fun k => k = wr.heap.size + 1) _ w1 := only1.mono (fun k _ e => by simp only [Value.ownBlock, Option.some.injEq] at e; omega)
      have fresh2 : ∀ k, Value.ownBlock (.slice sa (R.line i).hist.length cap1) = some k → wr.heap.size + 1 ≤ k := fun k hk => by
        rcases fresh1 k hk with h | h
        · simp only [Value.ownBlock, Option.some.injEq] at h; omega
        · (try simp only [World.size_alloc] at h); omega
      have hr2 := fun wF a2 cap2 Z => hround.out w1 wF sa cap1 a2 cap2 _ _ Z hcap1 own1 only2 fresh2
      have k1 : Only (fun _ => False) wr w1 := (((Only.refl (fun _ => False) wr).alloc _).alloc _).trans' only2 (fun k hk s => by omega)
      have D1 := hdev.only k1 (fun s => s)
      have D2 := D1.set_ne (a := ⟨wr.heap.size, 8, none⟩) (by show w.heap.size ≠ wr.heap.size; omega) (.slice sa (R.line i).hist.length cap1)
      have R2 := ownsRow_only (ownsRow_only hrow.out k1 (fun k _ s => s)) (Only.setAt w1 wr.heap.size 8 (.slice sa (R.line i).hist.length cap1)) (fun k hk e => by have := hal.out k hk; omega)
      have X1 := hbx.out.only only2 (by omega)
      have x8 := X1.cell (o := 8) rfl
      have f8 := X1.free 8
      have X2 : Has (w1.setCell ⟨wr.heap.size, 8, none⟩ (.slice sa (R.line i).hist.length cap1)) wr.heap.size (lnCells (R.line i) (.slice sa (R.line i).hist.length cap1)) 78 := X1.set 8 _
      have y0 := X2.cell (o := 0) rfl
      have y1 := X2.cell (o := 1) rfl
      have y2 := X2.cell (o := 2) rfl
      have y3 := X2.cell (o := 3) rfl
      have y4 := X2.cell (o := 4) rfl
      have y5 := X2.cell (o := 5) rfl
      have y6 := X2.cell (o := 6) rfl
      have y7 := X2.cell (o := 7) rfl
      have y8 := X2.cell (o := 8) rfl
      have y9 := X2.cell (o := 9) rfl
      have D0 := D2.cell (o := 0) rfl
      have D3 := D2.alloc (.cells (lnCells (R.line i) (.slice sa (R.line i).hist.length cap1)).toArray 78)
      have R3 := R2.alloc (.cells (lnCells (R.line i) (.slice sa (R.line i).hist.length cap1)).toArray 78)
      have N3 := has_news (Has.new (w1.setCell ⟨wr.heap.size, 8, none⟩ (.slice sa (R.line i).hist.length cap1)) (lnCells (R.line i) (.slice sa (R.line i).hist.length cap1)) 78)
      have hsz2 : (w1.setCell ⟨wr.heap.size, 8, none⟩ (.slice sa (R.line i).hist.length cap1)).heap.size = w1.heap.size := by simp
      rw [hsz2] at N3
      replace hr2 := Lib.hid hr2
      replace D3 := Lib.hid D3
      replace R3 := Lib.hid R3
      replace N3 := Lib.hid N3
      replace hsz2 := Lib.hid hsz2
      clear hround hrow hbx k1 D1 D2 R2 X1 X2 hE hrdB b8 hdev own1 only1 only2 fresh1 fresh2 c0 c1 c2 c3 c4 c5 c6 c7 c8 c9
      go_wp2_with (at_builtin; refine wpList_app rfl (.tmp 26) (.tmp 28) 79 rfl 78 (.agg zeroLn) 10 96 Try.underlying79 infoRLn rfl (by decide) (by decide) a i cap cs R3.out rfl _ 1 1 (lnCells (R.line i) (.slice sa (R.line i).hist.length cap1)) rfl rfl N3.out (lnCells_one _ _ rfl) (by omega) ?_)
      intro a2 cap2 w4 own4 only4 fresh4
      have r4 := hr2.out w4 a2 cap2 _ own4 only4 (fun k hk => (fresh4 k hk).imp id (fun h => by simpa using h))
      have D4 := D3.out.only only4 (fun e => hac e)
      have u0 := D4.cell (o := 0) rfl
      have fu0 := D4.free 0
      replace r4 := Lib.hid r4
      clear own4 only4 fresh4 D4 hr2 R3 D3 N3 y0 y1 y2 y3 y4 y5 y6 y7 y8 y9 D0
      go_wp2_with fail
      exact ⟨⟨i + 1, a2, cap2, _, by omega, by go_num, r4.out⟩, by simp [intOf]; omega⟩
    · obtain rfl : i = R.lines.length := by omega
      obtain ⟨lb, rfl, S2⟩ := (show Rc1 w F o h T R o2 w.heap.size (refCells 0 0 ns R).tail R.lines.length a cap cs wr by rw [hQ.out]; exact S0).two n1
      clear S0 hRow hLn hQ
      go_wp2_with fail
      go_loopw [32] (fun v wr => ∃ (t : Nat) (ns : Nat → Value), t ≤ 8 ∧ v = .int .i64 t ∧ Rc2 w F o h T R o2 w.heap.size lb cap t ns wr) (fun v _ => 8 - (intOf v).toNat)
      case atStart => exact ⟨0, ns, by omega, rfl, S2⟩
      case round =>
        clear S2
        obtain ⟨t, nsx, ht, rfl, S2⟩ := hrel
        by_cases ht8 : t < 8
        · have ht8I : (t : Int) < 8 := by omega
          have ht0I : (0 : Int) ≤ (t : Int) := by omega
          have hwm := Lib.hid (show wrap64 ((t : Int) + 1) = (t : Int) + 1 by unfold wrap64; omega)
          have hnl := hNl.out t ht8
          obtain ⟨va, vc, x0, _, hrd⟩ := hNot.out wr S2.b t ht8
          have x0' : (wr.alloc (.cells #[] 122)).cell? ⟨h, 1 + t, none⟩ = _ := (Only.refl (fun _ => False) wr |>.alloc (.cells #[] 122)).cell x0 (fun s => s)
          have hE := own_empty wr 122 2
          have hrdB := hrd.kept ((Below.refl wr.heap.size wr).alloc (Nat.le_refl _) (.cells #[] 122))
          have hst := fun wF v hO => S2.step (v := v) (wF := wF) hn ht8 hO
          have hdev := S2.dev
          have hcl := hdev.lt
          replace hst := Lib.hid hst
          replace hdev := Lib.hid hdev
          replace ht8 := Lib.hid ht8
          replace ht := Lib.hid ht
          clear S2 hrd
          go_wp2_with (at_builtin; refine wpList_appAll rfl (.tmp 36) (.tmp 42) 80 rfl 122 (.agg #[.int .i64 0, .int .i64 0]) 2 16 Try.underlying80 infoNote rfl (by decide) (by decide) _ 0 0 (Nat.le_refl _) [] hE rfl _ (R.notes.getD t []).length vc (noteCells (R.notes.getD t [])) rfl hrdB (noteCells_len _) (noteCells_one _) (by omega) ?_)
          intro sa cap1 w1 hcap1 own1 only1 fresh1
          try simp only [Nat.zero_add, List.nil_append] at hcap1
          try simp only [Nat.zero_add, List.nil_append] at own1
          try simp only [Nat.zero_add, List.nil_append] at fresh1
          have k1 : Only (fun _ => False) wr w1 := ((Only.refl (fun _ => False) wr).alloc _).trans' only1 (fun k hk e => by simp only [Value.ownBlock, Option.some.injEq] at e; omega)
          have r4 := hst.out w1 (.slice sa (R.notes.getD t []).length cap1) k1 (Rd.of_own own1) (fun k hk => by
            rcases fresh1 k hk with h | h
            · simp only [Value.ownBlock, Option.some.injEq] at h; omega
            · (try simp only [World.size_alloc] at h); omega) (own_cap own1)
          have D4 := hdev.out.only k1 (fun s => s)
          have u0 := D4.cell (refCells_note lb cap nsx R t ht8.out)
          have fu0 := D4.free (1 + t)
          generalize nsx t = old at u0
          replace r4 := Lib.hid r4
          clear own1 only1 fresh1 D4 hst hrdB hE k1 x0 x0'
          go_wp2_with fail
          have := ht8.out
          try rw [hwm.out]
          exact ⟨⟨t + 1, _, by omega, by go_num, r4.out⟩, by simp [intOf]; omega⟩
        · obtain rfl : t = 8 := by omega
          have hfin := S2.fin
          rw [hpost.out] at hfin
          replace hfin := Lib.hid hfin
          clear S2 hpost
          go_wp2_with fail
          first | exact hfin.out | (go_ret; exact hfin.out)
end Go.Proofs.Ytkmhanjddkplbaa
