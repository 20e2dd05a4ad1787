/- The law's calls within a round, each as a contract over what the round keeps. -/
import Derived.Test.YtjmdibgncaljaaaUY
namespace Go.Proofs.Ytjmdibgncaljaaa
open Go.RowKit Dev
theorem only_set (w : World) (b o : Nat) (v : Value) : Only (fun k => k = b) w (w.setCell ⟨b, o, none⟩ v) := (Only.refl (fun k => k = b) w).setCell (fun _ => rfl) v
def offL (ws : List Nat) : List Nat := (ws.take 3).map fun w => 192 + 8 * (w % 56)
theorem offL_ok (ws : List Nat) : ∀ x ∈ offL ws, okOff x = true := by
  intro x hx
  unfold offL at hx
  obtain ⟨y, _, rfl⟩ := List.mem_map.1 hx
  exact okOff_iff.2 (by omega)
theorem offL_len (ws : List Nat) : (offL ws).length ≤ 3 := by unfold offL; rw [List.length_map, List.length_take]; omega
def datL (offs : List Nat) (v : Nat) : List (Nat × Nat) := (List.range offs.length).map fun k => (offs.getD k 0, (v + k) % 18446744073709551616)
theorem datL_len (offs : List Nat) (v : Nat) : (datL offs v).length = offs.length := by unfold datL; rw [List.length_map, List.length_range]
theorem datL_mem {offs : List Nat} {v : Nat} : ∀ p ∈ datL offs v, p.1 ∈ offs ∧ p.2 < 18446744073709551616 := by
  intro p hp
  unfold datL at hp
  obtain ⟨k, hk, rfl⟩ := List.mem_map.1 hp
  rw [List.mem_range] at hk
  refine ⟨?_, Nat.mod_lt _ (by decide)⟩
  show offs.getD k 0 ∈ offs
  rw [List.getD_eq_getElem?_getD, List.getElem?_eq_getElem hk]
  exact List.getElem_mem hk
theorem datL_take {offs : List Nat} {v k : Nat} (hk : k < offs.length) : (datL offs v).take (k + 1) = (datL offs v).take k ++ [(offs.getD k 0, (v + k) % 18446744073709551616)] := by
  have : (datL offs v)[k]? = some (offs.getD k 0, (v + k) % 18446744073709551616) := by
    unfold datL
    rw [List.getElem?_map, List.getElem?_range hk]; rfl
  rw [List.take_add_one, this]; rfl
theorem updF_snoc (f : Nat → Nat) (l : List (Nat × Nat)) (p : Nat × Nat) : updF f (l ++ [p]) = fun o => if o = p.1 then p.2 else updF f l o := by unfold updF; rw [List.foldl_append]; rfl
theorem inCells_st (l : List (Nat × Nat)) (p : Nat × Nat) : inCells ((l ++ [p]).map stI) = inCells (l.map stI) ++ [.int .u8 1, .int .u64 (p.1 : Int), .int .u64 (p.2 : Int)] := by
  rw [List.map_append, inC_app]; rfl
/-- What the law does not change. -/
structure Base (W9 : World) (F1 : Dev.Own) (L : Lay) (ub lb : Nat) : Prop where
  lg : LogAt W9 lb (L.tb 0)
  fl : F1 lb = none
  ne : lb ≠ ub
  lt : ub < W9.heap.size
  fu : F1 ub = none
def MidP (W9 : World) (F1 : Dev.Own) (L : Lay) (ub lb : Nat) (f0 u0 g f : Nat → Nat) (E : List (Nat × Nat)) (T ob oc nb nc : Nat) (w : World) (F : Dev.Own) (e : Ending) (w' : World) : Prop :=
  ∃ T' R' F', e = .returned (.bool true) ∧ T' ≤ T ∧ MidI W9 F1 L ub lb f0 u0 g f E T' R' F' ob oc nb nc w' ∧ Dstep w F 0 w' F'
section
variable {W9 wr wr2 : World} {F1 F' : Dev.Own} {L : Lay} {ub lb : Nat} {f0 u0 g f : Nat → Nat} {E : List (Nat × Nat)} {T : Nat} {R : Dv} {ob oc nb nc : Nat} {nv : Value}
theorem MidI.plan (h : MidI W9 F1 L ub lb f0 u0 g f E T R F' ob oc nb nc wr) (hb : Base W9 F1 L ub lb) (offs : List Nat) (h3 : offs.length ≤ 3) (hok : ∀ x ∈ offs, okOff x = true) {ra : Option Addr} {rc : Nat} (hr : Rd wr (.slice ra offs.length rc) offs.length (u64s offs)) :
    Calls Try.prog 25 #[.pointer (some ⟨lb, 0, none⟩), .slice ra offs.length rc] wr (PlanP wr E (freshF R E offs)) := by
  have := uplan_any h.d h.un.lv h.o.er h.o.len (h.k.log hb.lg hb.fl hb.ne).1 (by rw [und_saved h.un]; exact fun p hp => (h.un.ok p hp).1) offs h3 hok ra rc hr
  rw [und_saved h.un] at this
  exact this
theorem MidI.save0 (h : MidI W9 F1 L ub lb f0 u0 g f E T R F' ob oc nb nc wr) (hb : Base W9 F1 L ub lb) (hT : T ≤ 90000) :
    Calls Try.prog 26 #[.pointer (some ⟨ub, 0, none⟩), .slice none 0 0, .bool true, .bool false] wr (MidP W9 F1 L ub lb f0 u0 g f E T ob oc nb nc wr F') := by
  have := urun_any (b := true) (a := false) (l := []) (pa := none) (pc := 0) h.d h.o (h.at hb.lg hb.fl hb.ne hb.lt hb.fu) (Rd.nil wr) (fun _ => ⟨rfl, rfl⟩) (by decide) (fun x hx => (by cases hx)) (by show T + 2 * 0 ≤ _; omega) (fun k T' h1 h2 => by
    have : k ≤ 0 := h2
    omega)
  refine this.mono ?_
  rintro e w' ⟨F2, rfl, hd, hs⟩
  exact ⟨T, R, F2, rfl, Nat.le_refl _, h.run (h.k.ubF hb.lt hb.fu) hs hd h.un h.z h.o h.v, hs⟩
theorem savL_len {F : List (Nat × Nat)} {fl : List Nat} (h6 : fl.length ≤ 6) (h3 : F.length ≤ 3) : (savL E F fl).length ≤ 16 := by
  unfold savL
  rw [List.length_append, stores_len, stores_len, entW_len]
  simp only [List.length_cons, List.length_nil]
  omega
theorem savL_ne {F : List (Nat × Nat)} {fl : List Nat} : savL E F fl ≠ [] := fun e => by
  have := congrArg List.length e
  unfold savL at this
  rw [List.length_append, stores_len, stores_len] at this
  simp at this
theorem MidI.save1 (h : MidI W9 F1 L ub lb f0 f0 g f E T R F' ob oc nb nc wr) (hb : Base W9 F1 L ub lb) (hT : T ≤ 90000) {offs : List Nat} (h3 : offs.length ≤ 3) (hok : ∀ x ∈ offs, okOff x = true) {fl : List Nat} (h8 : E.length + (freshF R E offs).length ≤ 8)
    (hfl : ∀ y, y ∈ fl ↔ y ∈ (entW E.length (freshF R E offs)).map fun p => p.1 / 64 * 64) (hf6 : fl.length ≤ 6) {pa : Option Addr} {pc : Nat} (hr : Rd wr (.slice pa (savL E (freshF R E offs) fl).length pc) (savL E (freshF R E offs) fl).length (inCells (savL E (freshF R E offs) fl))) :
    Calls Try.prog 26 #[.pointer (some ⟨ub, 0, none⟩), .slice pa (savL E (freshF R E offs) fl).length pc, .bool true, .bool false] wr (MidP W9 F1 L ub lb f0 f0 g f (E ++ freshF R E offs) (T + 32) ob oc nb nc wr F') := by
  have hF := und_fresh h.un hok
  have hF2 : ∀ e ∈ freshF R E offs, okOff e.1 = true ∧ e.2 < 18446744073709551616 := fun e he => ⟨(hF e he).1, by
    unfold freshF at he
    obtain ⟨o, hm, rfl⟩ := List.mem_map.1 he
    have := okOff_iff.1 (hok o (freshO_mem _ _ _ hm))
    exact value_lt h.d.ok (by rw [h.o.len]; omega)⟩
  have hlen := savL_len (E := E) (fl := fl) hf6 (Nat.le_trans (freshF_len R E offs) h3)
  have hfit := fit_sav h8 hF2 hfl
  have hfl640 : ∀ y ∈ fl, y < 640 := fun y hy => by
    obtain ⟨p, hp, rfl⟩ := List.mem_map.1 ((hfl y).1 hy)
    obtain ⟨i, h1, h2, h4⟩ := entW_mem (n := 0) hp
    omega
  obtain ⟨s1, s2⟩ := save_run h.un h.z h8 hF hfl640 (entW_cov hfl)
  have e : storesI (entW E.length (freshF R E offs)) fl ++ storesI [(0, E.length + (freshF R E offs).length)] [0] = savL E (freshF R E offs) fl := rfl
  rw [e] at s1 s2
  have hO := h.o
  obtain ⟨l, hl⟩ : ∃ l, savL E (freshF R E offs) fl = l := ⟨_, rfl⟩
  have hne : l ≠ [] := by rw [← hl]; exact savL_ne
  rw [hl] at hr hlen hfit s1 s2 ⊢
  have := urun_any (b := true) (a := false) h.d h.o (h.at hb.lg hb.fl hb.ne hb.lt hb.fu) hr (fun e => absurd e hne) (by omega) hfit (by omega) (fun k T' h1 h2 hk => allOk_und (s1 k h2) (hO.run (fun x hx => hfit x (List.mem_of_mem_take hx))) hk)
  refine this.mono ?_
  rintro e w' ⟨F2, rfl, hd, hs⟩
  exact ⟨_, _, F2, rfl, (by omega), h.run (h.k.ubF hb.lt hb.fu) hs hd s2.u s2.z (hO.run hfit) (fun o h1 h2 h3 => (s2.v o h1 h2 h3).trans (h.v o h1 h2 h3)), hs⟩
def PlanQ (wr : World) (ub : Nat) (Q : World → Ending → World → Prop) (e : Ending) (w' : World) : Prop :=
  Below wr.heap.size wr w' ∧ (e = .returned (.tuple #[.slice none 0 0, .int .i64 4]) ∨ ∃ pa n pc, e = .returned (.tuple #[.slice pa n pc, .int .i64 0]) ∧ Calls Try.prog 26 #[.pointer (some ⟨ub, 0, none⟩), .slice pa n pc, .bool true, .bool false] w' (Q w'))
/-- The plan of a save, with what its run does. -/
theorem MidI.plan2 (h : MidI W9 F1 L ub lb f0 f0 g f E T R F' ob oc nb nc wr) (hb : Base W9 F1 L ub lb) (hT : T ≤ 90000) (offs : List Nat) (h3 : offs.length ≤ 3) (hok : ∀ x ∈ offs, okOff x = true) {ra : Option Addr} {rc : Nat} (hr : Rd wr (.slice ra offs.length rc) offs.length (u64s offs)) :
    Calls Try.prog 25 #[.pointer (some ⟨lb, 0, none⟩), .slice ra offs.length rc] wr (PlanQ wr ub (fun wx => MidP W9 F1 L ub lb f0 f0 g f (E ++ freshF R E offs) (T + 32) ob oc nb nc wx F')) := by
  refine (h.plan hb offs h3 hok hr).mono ?_
  rintro e w' ⟨hbl, hc⟩
  have h2 := h.below hbl
  refine ⟨hbl, ?_⟩
  rcases hc with ⟨h8, rfl⟩ | ⟨h8, hF0, rfl⟩ | ⟨h8, hF0, pa, pc, fl, rfl, hpr, hfl, hfl6⟩
  · exact .inl rfl
  · refine .inr ⟨none, 0, 0, rfl, ?_⟩
    rw [hF0, List.append_nil]
    refine (h2.save0 hb hT).mono ?_
    rintro e w2 ⟨T', R', F2, rfl, hT2, hM, hs⟩
    exact ⟨T', R', F2, rfl, by omega, hM, hs⟩
  · exact .inr ⟨pa, _, pc, rfl, h2.save1 hb hT h3 hok h8 hfl hfl6 hpr⟩
theorem MidI.dat {ws : List (Nat × Nat)} (h : MidI W9 F1 L ub lb f0 f0 (updF f ws) f E T R F' ob oc nb nc wr) (hb : Base W9 F1 L ub lb) (hT : T ≤ 90000) (hw : ∀ p ∈ ws, okOff p.1 = true ∧ p.1 ∈ E.map Prod.fst ∧ p.2 < 18446744073709551616) (hl : ws.length ≤ 3)
    {pa : Option Addr} {pc n : Nat} (hn : n = ws.length) (hr : Rd wr (.slice pa n pc) n (inCells (ws.map stI))) (ha : ws = [] → pa = none ∧ pc = 0) :
    Calls Try.prog 26 #[.pointer (some ⟨ub, 0, none⟩), .slice pa n pc, .bool true, .bool false] wr (MidP W9 F1 L ub lb f0 f0 (updF f ws) (updF f ws) E (T + 6) ob oc nb nc wr F') := by
  obtain ⟨s1, s2, s3, s4⟩ := data_run ws R f h.un h.z (fun p hp => ⟨(hw p hp).1, (hw p hp).2.1⟩) h.v
  have hfit := fit_data (ws := ws) (fun p hp => ⟨(hw p hp).1, (hw p hp).2.2⟩)
  have hO := h.o
  obtain ⟨l, hl'⟩ : ∃ l, ws.map stI = l := ⟨_, rfl⟩
  have hll : l.length = n := by rw [← hl', List.length_map, hn]
  rw [hl'] at hr hfit s1 s2 s3 s4
  subst hll
  have := urun_any (b := true) (a := false) h.d h.o (h.at hb.lg hb.fl hb.ne hb.lt hb.fu) hr (fun e => ha (by
    have h0 := congrArg List.length e
    rw [List.length_nil] at h0
    exact List.length_eq_zero_iff.1 (by omega))) (by omega) hfit (by omega) (fun k T' h1 h2 hk => allOk_und (s1 k h2) (hO.run (fun x hx => hfit x (List.mem_of_mem_take hx))) hk)
  refine this.mono ?_
  rintro e w' ⟨F2, rfl, hd, hs⟩
  exact ⟨_, _, F2, rfl, (by omega), h.run (h.k.ubF hb.lt hb.fu) hs hd s2 s3 (hO.run hfit) s4, hs⟩
theorem MidI.planc (h : MidI W9 F1 L ub lb f0 u0 g f E T R F' ob oc nb nc wr) (hb : Base W9 F1 L ub lb) : Calls Try.prog 27 #[.pointer (some ⟨lb, 0, none⟩)] wr (PlcP wr E) := by
  have := uplanc_any h.d h.un.lv h.o.er h.o.len (h.k.log hb.lg hb.fl hb.ne).1 (by rw [und_saved h.un]; exact fun p hp => (h.un.ok p hp).1)
  rw [und_saved h.un] at this
  exact this
theorem MidI.com (h : MidI W9 F1 L ub lb f0 f0 f f E T R F' ob oc nb nc wr) (hb : Base W9 F1 L ub lb) (hT : T ≤ 90000) {ps : List In} {pa : Option Addr} {pc n : Nat} (hn : n = ps.length) (hr : Rd wr (.slice pa n pc) n (inCells ps))
    (hps : (E = [] ∧ ps = [] ∧ pa = none ∧ pc = 0) ∨ (E ≠ [] ∧ ∃ fl, (∀ y, y ∈ fl ↔ y ∈ E.map fun p => p.1 / 64 * 64) ∧ fl.length ≤ E.length ∧ ps = comL fl)) :
    Calls Try.prog 26 #[.pointer (some ⟨ub, 0, none⟩), .slice pa n pc, .bool true, .bool true] wr (MidP W9 F1 L ub lb f0 f f f [] (T + 26) ob oc nb nc wr F') := by
  have hO := h.o
  rcases hps with ⟨rfl, rfl, rfl, rfl⟩ | ⟨hE, fl, hfl, hf8, rfl⟩
  · subst hn
    have := urun_any (b := true) (a := true) (l := []) (pa := none) (pc := 0) h.d h.o (h.at hb.lg hb.fl hb.ne hb.lt hb.fu) (Rd.nil wr) (fun _ => ⟨rfl, rfl⟩) (by decide) (fun x hx => (by cases hx)) (by show T + 2 * 0 ≤ _; omega) (fun k T' h1 h2 => by
      have : k ≤ 0 := h2
      omega)
    refine this.mono ?_
    rintro e w' ⟨F2, rfl, hd, hs⟩
    have hun : Und R f [] 0 [0] := by
      have hu := h.un
      refine ⟨hu.lv, hu.len, hu.cnt, hu.cn, hu.e8, hu.ent, fun e he => (by cases he), fun o h1 h2 h3 _ => ?_⟩
      have hd := hu.dat o h1 h2 h3 (by simp)
      have := List.mem_singleton.1 hd.cur
      rw [h.v o h1 h2 h3] at this
      rw [this]; exact hd
    exact ⟨_, _, F2, rfl, (by show T + 2 * 0 ≤ _; omega), h.run (h.k.ubF hb.lt hb.fu) hs hd hun h.z h.o h.v, hs⟩
  · have hok : ∀ e ∈ E, okOff e.1 = true := fun e he => (h.un.ok e he).1
    have hfit := fit_com hok hfl
    have h8 := h.un.e8
    have hfl640 : ∀ y ∈ fl, y < 640 := fun y hy => by
      obtain ⟨p, hp, rfl⟩ := List.mem_map.1 ((hfl y).1 hy)
      have := okOff_iff.1 (hok p hp)
      omega
    have hcov : ∀ e ∈ E, e.1 / 64 ∈ fl.map (· / 64) := fun p hp => List.mem_map.2 ⟨p.1 / 64 * 64, (hfl _).2 (List.mem_map.2 ⟨p, hp, rfl⟩), by show p.1 / 64 * 64 / 64 = p.1 / 64; omega⟩
    obtain ⟨s1, s2, s3, s4⟩ := commit_run h.un h.z hfl640 hcov h.v
    have e : fl.map flI ++ [feI] ++ storesI [(0, 0)] [0] = comL fl := rfl
    rw [e] at s1 s2 s3 s4
    have hlen : (comL fl).length ≤ 12 := by
      rw [← e, List.length_append, List.length_append, stores_len, List.length_map]
      simp only [List.length_cons, List.length_nil]
      omega
    have hne : comL fl ≠ [] := fun e2 => by
      have := congrArg List.length e2
      rw [← e, List.length_append, List.length_append, stores_len] at this
      simp at this
    obtain ⟨l, hl⟩ : ∃ l, comL fl = l := ⟨_, rfl⟩
    rw [hl] at hn hr hlen hfit hne s1 s2 s3 s4
    subst hn
    have := urun_any (b := true) (a := true) h.d h.o (h.at hb.lg hb.fl hb.ne hb.lt hb.fu) hr (fun e => absurd e hne) (by omega) hfit (by omega) (fun k T' h1 h2 hk => allOk_com (s1 k h2) (hO.run (fun x hx => hfit x (List.mem_of_mem_take hx))) hk)
    refine this.mono ?_
    rintro e w' ⟨F2, rfl, hd, hs⟩
    exact ⟨_, _, F2, rfl, (by omega), h.run (h.k.ubF hb.lt hb.fu) hs hd s2 s3 (hO.run hfit) s4, hs⟩
theorem MidI.all (h : MidI W9 F1 L ub lb f0 f f f [] T R F' ob oc nb nc wr) : Calls Try.prog 28 #[.pointer (some ⟨ub, 0, none⟩), .bool false, .bool true] wr (RP wr (.bool true)) :=
  uall_any h.d (wordsF f0) (wordsF f) (wordsF_len _) (wordsF_len _) false true (allOk_new ⟨_, _, _, h.un⟩ h.o h.d.ok) h.u (h.ro.rd (wordsF_len _)) (h.rn.rd (wordsF_len _))
theorem MidI.saved (h : MidI W9 F1 L ub lb f0 u0 g f [] T R F' ob oc nb nc wr) (hb : Base W9 F1 L ub lb) : Calls Try.prog 29 #[.pointer (some ⟨lb, 0, none⟩)] wr (RowPost wr 133 2 0 []) := by
  have := usaved_any h.d h.un.lv h.o.len (h.k.log hb.lg hb.fl hb.ne).1
  rw [und_saved h.un] at this
  exact this
theorem MidI.fin (h : MidI W9 F1 L ub lb f0 f f f [] T R F' ob oc nb nc wr) (hb : Base W9 F1 L ub lb) : OutI W9 F1 L ub lb f T R F' nb nc (.slice (some ⟨nb, 0, none⟩) 56 nc) (wr.setCell ⟨ub, 2, none⟩ (.slice (some ⟨nb, 0, none⟩) 56 nc)) := by
  have ho : Only (fun k => k = ub) wr (wr.setCell ⟨ub, 2, none⟩ (.slice (some ⟨nb, 0, none⟩) 56 nc)) := only_set _ _ _ _
  have hbo := h.bo
  refine ⟨h.d.kept ho (Ext.refl _ _) (fun k r hk e => ?_), h.k.ub ho, h.u.set 2 _, h.rn.only ho (by omega), (by omega), h.fn, h.un, h.z, h.o, h.v⟩
  rw [hk, h.k.ubF hb.lt hb.fu] at e
  cases e
theorem OutI.clone (h : OutI W9 F1 L ub lb f T R F' ob oc nv wr) : Calls Try.prog 24 #[.slice (some ⟨ob, 0, none⟩) 56 oc] wr (ClonePost wr 27 1 56 (u64s (wordsF f))) := by
  have := cloneU_any wr ob 0 oc (wordsF f) (by rw [wordsF_len]; exact h.ro.rd (wordsF_len _)) (by rw [wordsF_len]; decide)
  rwa [wordsF_len] at this
theorem OutI.mid (h : OutI W9 F1 L ub lb f T R F' ob oc nv wr) (hb : Base W9 F1 L ub lb) (hbl : Below wr.heap.size wr wr2) {na : Option Addr} (hn : wr2.ownsRow 0 27 1 (.slice na 56 nc) 56 (u64s (wordsF f))) (hne : ∀ k, Value.ownBlock (.slice na 56 nc) = some k → wr.heap.size ≤ k) :
    ∃ nb F2, na = some ⟨nb, 0, none⟩ ∧ MidI W9 F1 L ub lb f f f f [] T R F2 ob oc nb nc (wr2.setCell ⟨ub, 3, none⟩ (.slice (some ⟨nb, 0, none⟩) 56 nc)) := by
  obtain ⟨nb, rfl⟩ : ∃ nb, na = some ⟨nb, 0, none⟩ := by
    rcases hn.2 with ⟨h1, _⟩ | ⟨g, cap, cur, hv, _⟩
    · cases h1
    · simp only [Value.slice.injEq] at hv
      exact ⟨g, hv.1⟩
  have hnb := hne nb rfl
  have hro := NewR.of_own hn
  have h2 := h.below hbl
  have hbo := h.bo
  have hul := h.u.lt
  have hlo := h.ro.lt
  have hsz := h.k.y.size
  have ho : Only (fun k => k = ub) wr2 (wr2.setCell ⟨ub, 3, none⟩ (.slice (some ⟨nb, 0, none⟩) 56 nc)) := only_set _ _ _ _
  have hx : Ext wr F' (F'.trim wr) := F'.trim_ext wr
  have hd1 : DevSt wr2 (F'.trim wr) 0 L T R := h.d.trim.below hbl
  have hk1 : Keep W9 F1 ub (F'.trim wr) wr2 := ⟨h2.k.x.trans hx hsz, h2.k.y⟩
  have hfu : (F'.trim wr) ub = none := (hx ub hul).trans (h.k.ubF hb.lt hb.fu)
  refine ⟨nb, F'.trim wr, rfl, hd1.kept ho (Ext.refl _ _) (fun k r hk e => ?_), hk1.ub ho, h2.u.set 3 _, h2.ro.only ho (by omega), hro.only ho (by omega), (by omega), (hx ob hlo).trans h.fo, F'.trim_new wr hnb, h.un, h.z, h.o, h.v⟩
  rw [hk, hfu] at e
  cases e
theorem MidI.trim (h : MidI W9 F1 L ub lb f0 u0 g f E T R F' ob oc nb nc wr) : MidI W9 F1 L ub lb f0 u0 g f E T R (F'.trim wr) ob oc nb nc wr :=
  ⟨h.d.trim, ⟨h.k.x.trans (F'.trim_ext wr) h.k.y.size, h.k.y⟩, h.u, h.ro, h.rn, h.bo, (F'.trim_ext wr ob h.ro.lt).trans h.fo, (F'.trim_ext wr nb h.rn.lt).trans h.fn, h.un, h.z, h.o, h.v⟩
/-- Past a bound that all that is kept lies below of. -/
theorem MidI.past (h : MidI W9 F1 L ub lb f0 u0 g f E T R F' ob oc nb nc wr) {B : Nat} (ho : Only (fun k => B ≤ k) wr wr2) (hF : ∀ k, B ≤ k → F' k = none) (hn : nb < B) : MidI W9 F1 L ub lb f0 u0 g f E T R F' ob oc nb nc wr2 := by
  have hbo := h.bo
  refine ⟨h.d.kept ho (Ext.refl _ _) (fun k r hk e => ?_), ⟨h.k.x, h.k.y.trans' ho (fun k hk e => absurd hk (by omega))⟩, h.u.only ho (by omega), h.ro.only ho (by omega), h.rn.only ho (by omega), hbo, h.fo, h.fn, h.un, h.z, h.o, h.v⟩
  rw [hF k hk] at e
  cases e
theorem MidI.setN (h : MidI W9 F1 L ub lb f0 u0 g f E T R F' ob oc nb nc wr) {o : Nat} (v : Nat) (ho : okOff o = true) : MidI W9 F1 L ub lb f0 u0 (fun x => if x = o then v else g x) f E T R F' ob oc nb nc (wr.setCell ⟨nb, o / 8 - 24, none⟩ (.int .u64 (v : Int))) := by
  have hon : Only (fun k => k = nb) wr (wr.setCell ⟨nb, o / 8 - 24, none⟩ (.int .u64 (v : Int))) := only_set _ _ _ _
  have hbo := h.bo
  obtain ⟨g1, g2, g3⟩ := okOff_iff.1 ho
  have hr := h.rn.set (i := o / 8 - 24) (v := v) (by rw [wordsF_len]; omega)
  rw [wordsF_set g v ho] at hr
  refine ⟨h.d.kept hon (Ext.refl _ _) (fun k r hk e => ?_), ⟨h.k.x, h.k.y.trans' hon (fun k hk e => absurd hk (by rw [e]; omega))⟩, h.u.only hon (by omega), h.ro.only hon (by omega), hr, hbo, h.fo, h.fn, h.un, h.z, h.o, h.v⟩
  rw [hk, h.fn] at e
  cases e
theorem OutI.wds (h : OutI W9 F1 L ub lb f T R F' ob oc nv wr) (u : Value) : Calls Try.prog 23 #[u, .pointer (some ⟨L.g, 0, none⟩)] wr (RowPost wr 27 1 56 (u64s (wordsF f))) := by
  have := uwords_any h.d h.o u
  rwa [wordsD_eq R f h.v] at this
end
/-- The stores so far, in a row of their own; behind w7 only nb's block is changed. -/
structure StR (w7 : World) (nb : Nat) (ps : List In) (n : Nat) (sa : Option Addr) (sc : Nat) (wx : World) : Prop where
  o : wx.ownsRow 0 85 3 (.slice sa n sc) n (inCells ps)
  ob : ∀ k, Value.ownBlock (.slice sa n sc) = some k → w7.heap.size ≤ k
  y : Only (fun k => k = nb) w7 wx
theorem StR.nil (w7 : World) (nb : Nat) : StR w7 nb [] 0 none 0 w7 := ⟨World.ownsRow_nil _ _ _ _, (fun k hk => by cases hk), Only.refl _ _⟩
theorem StR.alloc {w7 wx : World} {nb n sc : Nat} {ps : List In} {sa : Option Addr} (h : StR w7 nb ps n sa sc wx) (x : Obj) : StR w7 nb ps n sa sc (wx.alloc x) := by
  have hb := (Below.refl wx.heap.size wx).alloc (Nat.le_refl _) x
  exact ⟨ownsRow_only h.o (Only.of_below hb) (fun k hk e => by have := ownsRow_lt h.o hk; omega), h.ob, h.y.alloc x⟩
theorem StR.app {w7 wx wy : World} {nb n m sc sc' : Nat} {ps qs : List In} {sa sa' : Option Addr} (h : StR w7 nb ps n sa sc wx) (own : wy.ownsRow 0 85 3 (.slice sa' m sc') m (inCells qs)) (only : Only (fun k => Value.ownBlock (.slice sa n sc) = some k) wx wy)
    (fresh : ∀ k, Value.ownBlock (.slice sa' m sc') = some k → Value.ownBlock (.slice sa n sc) = some k ∨ wx.heap.size ≤ k) : StR w7 nb qs m sa' sc' wy ∧ Only (fun k => w7.heap.size ≤ k) wx wy := by
  have hs := h.y.size
  refine ⟨⟨own, fun k hk => ?_, h.y.trans' only (fun k hk e => absurd hk (by have := h.ob k e; omega))⟩, only.mono fun k _ e => h.ob k e⟩
  rcases fresh k hk with e | e
  · exact h.ob k e
  · omega
theorem StR.set {w7 wx : World} {nb n sc : Nat} {ps : List In} {sa : Option Addr} (h : StR w7 nb ps n sa sc wx) (hn : nb < w7.heap.size) (o : Nat) (v : Value) : StR w7 nb ps n sa sc (wx.setCell ⟨nb, o, none⟩ v) :=
  ⟨ownsRow_only h.o (only_set _ _ _ _) (fun k hk e => by have := h.ob k hk; omega), h.ob, h.y.trans (only_set _ _ _ _)⟩
theorem StR.drew {w7 wx : World} {nb n sc : Nat} {ps : List In} {sa : Option Addr} (h : StR w7 nb ps n sa sc wx) : StR w7 nb ps n sa sc wx.drew :=
  ⟨ownsRow_only h.o ((Only.refl (fun _ => False) wx).drew) (fun _ _ e => e), h.ob, h.y.drew⟩
theorem lit_saves {w : World} {b0 b1 : Nat} (h0 : Has w b0 [.int .u8 3] 5) (h1 : Has w b1 [.slice (some ⟨b0, 0, none⟩) 1 1, .int .u64 5] 75) : SavesV w (.slice (some ⟨b1, 0, none⟩) 1 1) [⟨[3], 5⟩] := by
  refine ⟨some ⟨b1, 0, none⟩, 1, [(.slice (some ⟨b0, 0, none⟩) 1 1, 5)], rfl, Nat.le_refl _, by decide, Rd.of_has h1 1 1, fun i x hx => ?_⟩
  cases i with
  | zero =>
    simp only [List.getElem?_cons_zero, Option.some.injEq] at hx
    subst hx
    exact ⟨_, rfl, ⟨some ⟨b0, 0, none⟩, 1, rfl, Nat.le_refl _, by decide, (by intro x hx; rw [List.mem_singleton.1 hx]; decide), Rd.of_has h0 1 1⟩, by decide⟩
  | succ i => simp at hx
end Go.Proofs.Ytjmdibgncaljaaa
