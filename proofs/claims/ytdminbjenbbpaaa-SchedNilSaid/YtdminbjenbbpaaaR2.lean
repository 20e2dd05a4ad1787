/- Contract of the specification's step. -/
import Derived.Test.YtdminbjenbbpaaaR1
namespace Go.Proofs.Ytdminbjenbbpaaa
open Go.RowKit

structure RL where
  steps : List Int
  ended : List Int
def rstepP (sizes : List Int) (l : RL) (m : Nat) : RL :=
  { steps := l.steps ++ [(m : Int)], ended := if (occ m (l.steps ++ [(m : Int)]) : Int) = max (sizes.getD m 0) 1 then l.ended.set m l.steps.length else l.ended }

def RStepLeft (w : World) (sa : Option Addr) (sc : Nat) (ea : Option Addr) (ec : Nat) (l l' : RL) (e : Ending) (w' : World) : Prop :=
  ∃ sa' sc', e = .returned (.agg #[.slice sa' l'.steps.length sc', .slice ea l'.ended.length ec]) ∧ RLog w' sa' sc' ea ec l'.steps l'.ended ∧
    Only (fun k => Value.ownBlock (.slice sa l.steps.length sc) = some k ∨ Value.ownBlock (.slice ea l.ended.length ec) = some k) w w' ∧
    (∀ k, Value.ownBlock (.slice sa' l'.steps.length sc') = some k → Value.ownBlock (.slice sa l.steps.length sc) = some k ∨ w.heap.size ≤ k)

set_option maxHeartbeats 2000000 in
theorem rstep_any (w : World) (sa : Option Addr) (sc : Nat) (ea : Option Addr) (ec : Nat) (l : RL) (za : Option Addr) (zc : Nat) (sizes : List Int) (m : Nat) (hL : RLog w sa sc ea ec l.steps l.ended) (hz : Rd w (.slice za sizes.length zc) sizes.length (sizes.map (.int .i64)))
    (hzs : ∀ k, Value.ownBlock (.slice za sizes.length zc) = some k → Value.ownBlock (.slice sa l.steps.length sc) ≠ some k ∧ Value.ownBlock (.slice ea l.ended.length ec) ≠ some k) (hm : m < sizes.length) (hme : l.ended.length = sizes.length) (hn : sizes.length < 1099511627776) (hsl : l.steps.length < 1099511627775) :
    Calls Try.prog 36 #[.agg #[.slice sa l.steps.length sc, .slice ea l.ended.length ec], .slice za sizes.length zc, .int .i64 m] w (RStepLeft w sa sc ea ec l (rstepP sizes l m)) := by
  generalize hpost : RStepLeft w sa sc ea ec l (rstepP sizes l m) = post
  have Hpost := Lib.hid hpost
  clear hpost
  replace hme := Lib.hid hme
  have A1 := (Has.new w [.slice sa l.steps.length sc, .slice ea l.ended.length ec] 31).alloc (.cells #[.slice none 0 0, .slice none 0 0] 31)
  have A2 := Has.new (w.alloc (.cells [.slice sa l.steps.length sc, .slice ea l.ended.length ec].toArray 31)) [.slice none 0 0, .slice none 0 0] 31
  simp only [World.size_alloc] at A2
  have hst := (hL.st.alloc (.cells #[.slice sa l.steps.length sc, .slice ea l.ended.length ec] 31)).alloc (.cells #[.slice none 0 0, .slice none 0 0] 31)
  have hen := (hL.en.alloc (.cells #[.slice sa l.steps.length sc, .slice ea l.ended.length ec] 31)).alloc (.cells #[.slice none 0 0, .slice none 0 0] 31)
  have hB0 : Below w.heap.size w ((w.alloc (.cells #[.slice sa l.steps.length sc, .slice ea l.ended.length ec] 31)).alloc (.cells #[.slice none 0 0, .slice none 0 0] 31)) := ((Below.refl _ _).alloc (Nat.le_refl _) _).alloc (by simp) _
  have hz1 := hz.kept hB0
  have hO0 := Only.of_below hB0
  have hlt1 : ∀ k, Value.ownBlock (.slice sa l.steps.length sc) = some k → k < w.heap.size := fun k hk => ownsRow_lt hL.st hk
  have hlt2 : ∀ k, Value.ownBlock (.slice ea l.ended.length ec) = some k → k < w.heap.size := fun k hk => ownsRow_lt hL.en hk
  have c0 := A1.cell (o := 0) rfl
  go_enter Try.func36, Try.ntmps36
  go_wp2_with (at_builtin; refine wpList_app1 rfl (.tmp 8) (.tmp 10) 23 rfl 3 (.int .i64 0) 8 Try.underlying23 info3 rfl (by decide) sa l.steps.length sc _ rfl (.int .i64 m) _ ((w.alloc (.cells #[.slice sa l.steps.length sc, .slice ea l.ended.length ec] 31)).alloc (.cells #[.slice none 0 0, .slice none 0 0] 31)) rfl rfl hst _ rfl (by simp) rfl ?hby ?_)
  case hby => omega
  intro sa' sc' w2 own2 only2 fresh2
  have E1 := A1.only only2 (fun h => by have := hlt1 _ h; omega)
  have E2 := A2.only only2 (fun h => by have := hlt1 _ h; omega)
  have D2 := ownsRow_only hen only2 (fun k hk h => hL.ne k h hk)
  have hz2 := hz1.only only2 (fun k hk h => (hzs k hk).1 h)
  have hsz2 := only2.size
  simp only [World.size_alloc] at hsz2
  have hO2 := (hO0.mono (S' := fun k => Value.ownBlock (.slice sa l.steps.length sc) = some k) (fun k hk h => by omega)).trans only2
  have fr2 : ∀ k, Value.ownBlock (.slice sa' (l.steps.length + 1) sc') = some k → Value.ownBlock (.slice sa l.steps.length sc) = some k ∨ w.heap.size + 1 + 1 ≤ k := fun k hk => by simpa using fresh2 k hk
  clear hst hen hz1 only2 fresh2 c0 A1 A2 hB0 hO0
  have E3 := E1.set 0 (.slice sa' (l.steps.length + 1) sc')
  have E4 := E2.set_ne (a := ⟨w.heap.size, 0, none⟩) (by simp) (.slice sa' (l.steps.length + 1) sc')
  have hb0 : ∀ k, Value.ownBlock (.slice sa' (l.steps.length + 1) sc') = some k → k ≠ w.heap.size ∧ k ≠ w.heap.size + 1 := fun k hk => by
    rcases fr2 k hk with h | h
    · have := hlt1 k h; omega
    · omega
  have own3 := ownsRow_setCell_other own2 (a := ⟨w.heap.size, 0, none⟩) (fun h => (hb0 _ h).1 rfl) (.slice sa' (l.steps.length + 1) sc')
  have D3 := ownsRow_setCell_other D2 (a := ⟨w.heap.size, 0, none⟩) (fun h => by have := hlt2 _ h; simp at this) (.slice sa' (l.steps.length + 1) sc')
  have hz3 := hz2.only ((Only.refl (fun k => k = w.heap.size) w2).setCell (a := ⟨w.heap.size, 0, none⟩) (fun _ => rfl) (.slice sa' (l.steps.length + 1) sc')) (fun k hk e => by have := hz.lt (by intro e; simp at e; subst e; simp at hm) hk; omega)
  have hO3 := hO2.setCell (a := ⟨w.heap.size, 0, none⟩) (fun h => absurd h (Nat.lt_irrefl _)) (.slice sa' (l.steps.length + 1) sc')
  have d0 := E1.cell (o := 0) rfl
  have g0 := E1.free 0
  go_wp2_with fail
  have hs3 : (w2.setCell ⟨w.heap.size, 0, none⟩ (.slice sa' (l.steps.length + 1) sc')).heap.size = w2.heap.size := by simp
  generalize (w2.setCell ⟨w.heap.size, 0, none⟩ (.slice sa' (l.steps.length + 1) sc')) = w3 at *
  have hsz3 : w.heap.size + 1 + 1 ≤ w3.heap.size := by omega
  have hls : (l.steps ++ [(m : Int)]).length = l.steps.length + 1 := by simp
  have hR : Rd w3 (.slice sa' (l.steps ++ [(m : Int)]).length sc') (l.steps ++ [(m : Int)]).length ((l.steps ++ [(m : Int)]).map (.int .i64)) := by
    rw [hls]; simpa using Rd.of_own own3
  obtain ⟨zb, zo, zc', hzv, hzc⟩ := hz3.cells (by omega)
  simp only [Value.slice.injEq, true_and] at hzv
  obtain ⟨rfl, rfl⟩ := hzv
  have q0 : w3.cell? ⟨w.heap.size, 0, none⟩ = some (.slice sa' (l.steps.length + 1) sc') := E3.cell rfl
  have q1 : w3.cell? ⟨w.heap.size, 1, none⟩ = some (.slice ea l.ended.length ec) := E3.cell rfl
  have qz := hzc m _ (ints_get sizes .i64 m hm)
  have hzlt : zb < w3.heap.size := by simpa using World.block_lt_of_cell? _ _ qz
  have hn0 : w.heap.size < w3.heap.size := by omega
  have hml : (m : Int) < sizes.length := by omega
  have hst : rstepP sizes l m = { steps := l.steps ++ [(m : Int)], ended := if (occ m (l.steps ++ [(m : Int)]) : Int) = max (sizes.getD m 0) 1 then l.ended.set m l.steps.length else l.ended } := rfl
  generalize sizes.getD m 0 = z at *
  replace hst := Lib.hid hst
  clear hzc hz3 hz2 hz E1 E2 own2 D2 hO2 hs3 hsz2
  have hdone := fun wx (h : Rd wx (.slice sa' (l.steps ++ [(m : Int)]).length sc') (l.steps ++ [(m : Int)]).length ((l.steps ++ [(m : Int)]).map (.int .i64))) => done_any sa' sc' (.slice ea l.ended.length ec) (l.steps ++ [(m : Int)]) m wx h (by simp; omega)
  rw [hls] at hdone hR
  replace hdone := Lib.hid hdone
  replace hR := Lib.hid hR
  replace hls := Lib.hid hls
  go_region_held3 (fun w' => w'.cell? ⟨w.heap.size, 0, none⟩ = some (.slice sa' (l.steps.length + 1) sc') ∧ w'.cell? ⟨w.heap.size, 1, none⟩ = some (.slice ea l.ended.length ec) ∧ w'.cell? ⟨zb, zo + m, none⟩ = some (.int .i64 z)) (go_keep)
    (first | (go_at_call 47; refine (hdone.out _ ?_).mono ?_; (first | exact hR.out); rintro e w' ⟨rfl, rfl⟩) | (go_at_call 48; refine (need_any z _).mono ?_; rintro e w' ⟨rfl, rfl⟩))
  clear q0 q1 qz hdone
  have bx := Has.only E3 (((Only.refl (fun _ => False) w3).alloc (.cells #[.slice sa' (l.steps.length + 1) sc', .slice ea l.ended.length ec] 31)).drew) (fun h => h)
  have by_ := Has.only E4 (((Only.refl (fun _ => False) w3).alloc (.cells #[.slice sa' (l.steps.length + 1) sc', .slice ea l.ended.length ec] 31)).drew) (fun h => h)
  have bo := (ownsRow_only own3 (((Only.refl (fun _ => False) w3).alloc (.cells #[.slice sa' (l.steps.length + 1) sc', .slice ea l.ended.length ec] 31)).drew) (fun _ _ h => h))
  have bd := (ownsRow_only D3 (((Only.refl (fun _ => False) w3).alloc (.cells #[.slice sa' (l.steps.length + 1) sc', .slice ea l.ended.length ec] 31)).drew) (fun _ _ h => h))
  have bO := (hO3.trans (((Only.refl (fun k => Value.ownBlock (.slice sa l.steps.length sc) = some k) w3).alloc (.cells #[.slice sa' (l.steps.length + 1) sc', .slice ea l.ended.length ec] 31)).drew))
  generalize (w3.alloc (.cells #[.slice sa' (l.steps.length + 1) sc', .slice ea l.ended.length ec] 31)).drew = w4 at *
  clear E3 E4 own3 D3 hO3
  have hml2 : m < l.ended.length := by have := hme.out; omega
  have hmi : (m : Int) < (l.ended.length : Int) := by omega
  rcases bd.2 with ⟨_, h0⟩ | ⟨ge, cap', _, hg, _⟩
  · omega
  simp only [Value.slice.injEq, true_and] at hg
  obtain ⟨rfl, rfl⟩ := hg
  have hge : ge < w4.heap.size := ownsRow_lt bd rfl
  have hgw : ge < w.heap.size := hlt2 ge rfl
  have x0 := bx.cell (o := 0) rfl
  have x1 := bx.cell (o := 1) rfl
  have r0 := by_.cell (o := 0) rfl
  have r1 := by_.cell (o := 1) rfl
  have f0 := by_.free 0
  have f1 := by_.free 1
  -- the end: the log is copied into the result's variable
  have fin : ∀ (wz : World) (en : List Int), Has wz w.heap.size [.slice sa' (l.steps.length + 1) sc', .slice (some ⟨ge, 0, none⟩) l.ended.length ec] 31 → Has wz (w.heap.size + 1) [.slice none 0 0, .slice none 0 0] 31 →
      wz.ownsRow 0 3 1 (.slice sa' (l.steps.length + 1) sc') (l.steps.length + 1) (l.steps.map (.int .i64) ++ [.int .i64 m]) → wz.ownsRow 0 3 1 (.slice (some ⟨ge, 0, none⟩) l.ended.length ec) l.ended.length (en.map (.int .i64)) →
      Only (fun k => Value.ownBlock (.slice sa l.steps.length sc) = some k ∨ Value.ownBlock (.slice (some ⟨ge, 0, none⟩) l.ended.length ec) = some k) w wz → en.length = l.ended.length →
      rstepP sizes l m = { steps := l.steps ++ [(m : Int)], ended := en } →
      post (.returned (.agg #[.slice sa' (l.steps.length + 1) sc', .slice (some ⟨ge, 0, none⟩) l.ended.length ec])) ((wz.setCell ⟨w.heap.size + 1, 0, none⟩ (.slice sa' (l.steps.length + 1) sc')).setCell ⟨w.heap.size + 1, 1, none⟩ (.slice (some ⟨ge, 0, none⟩) l.ended.length ec)) := by
    intro wz en a1 a2 a3 a4 a5 a6 a7
    rw [← Hpost.out]
    refine ⟨sa', sc', ?_, ⟨?_, ?_, ?_⟩, ?_, ?_⟩
    · rw [a7]; simp [a6]
    · rw [a7]; simp only [hls.out, List.map_append, List.map_cons, List.map_nil]
      exact ownsRow_setCell_other (ownsRow_setCell_other a3 (a := ⟨w.heap.size + 1, 0, none⟩) (fun h => (hb0 _ h).2 rfl) _) (a := ⟨w.heap.size + 1, 1, none⟩) (fun h => (hb0 _ h).2 rfl) _
    · rw [a7]; simp only [a6]
      exact ownsRow_setCell_other (ownsRow_setCell_other a4 (a := ⟨w.heap.size + 1, 0, none⟩) (fun h => by have := hlt2 _ h; simp at this; omega) _) (a := ⟨w.heap.size + 1, 1, none⟩) (fun h => by have := hlt2 _ h; simp at this; omega) _
    · rw [a7]; simp only [hls.out, a6]
      intro k hk hk2
      rcases fr2 k hk with h | h
      · exact hL.ne k h hk2
      · have := hlt2 k hk2; omega
    · exact (a5.setCell (a := ⟨w.heap.size + 1, 0, none⟩) (fun h => absurd h (by simp)) _).setCell (a := ⟨w.heap.size + 1, 1, none⟩) (fun h => absurd h (by simp)) _
    · rw [a7]; simp only [hls.out]
      intro k hk
      rcases fr2 k hk with h | h
      · exact .inl h
      · exact .inr (by omega)
  replace fin := Lib.hid fin
  replace hO := Lib.hid (bO.mono (S' := fun k => Value.ownBlock (.slice sa l.steps.length sc) = some k ∨ Value.ownBlock (.slice (some ⟨ge, 0, none⟩) l.ended.length ec) = some k) (fun _ _ h => .inl h))
  by_cases hocc : (occ m (l.steps ++ [(m : Int)]) : Int) = max z 1
  · have hb : (((occ m (l.steps ++ [(m : Int)]) : Nat) : Int) == max z 1) = true := beq_iff_eq.2 hocc
    have hst2 : rstepP sizes l m = { steps := l.steps ++ [(m : Int)], ended := l.ended.set m l.steps.length } := by rw [hst.out, if_pos hocc]
    replace hst2 := Lib.hid hst2
    clear hocc
    generalize occ m (l.steps ++ [(m : Int)]) = oc at *
    have y := bx.set_ne (a := ⟨ge, m, none⟩) (by simp; omega) (.int .i64 l.steps.length)
    have yy := by_.set_ne (a := ⟨ge, m, none⟩) (by simp; omega) (.int .i64 l.steps.length)
    have cm := bd.cellAt m (by omega)
    rw [ints_get l.ended .i64 m hml2] at cm
    have fm := bd.frozenAt m
    have ys := (bd.stored m (.int .i64 l.steps.length)).1
    rw [← List.map_set] at ys
    have yo := ownsRow_setCell_other bo (a := ⟨ge, m, none⟩) (fun h => by
      rcases fr2 _ h with h | h
      · exact hL.ne _ h rfl
      · simp at h; omega) (.int .i64 l.steps.length)
    have F := Lib.hid (fin.out _ _ y yy yo ys (hO.out.setCell (a := ⟨ge, m, none⟩) (fun _ => .inr rfl) _) (by simp) hst2.out)
    have x0' := y.cell (o := 0) rfl
    have x1' := y.cell (o := 1) rfl
    have r0' := yy.cell (o := 0) rfl
    have r1' := yy.cell (o := 1) rfl
    have HZ := (yy.set 0 (.slice sa' (l.steps.length + 1) sc')).set 1 (.slice (some ⟨ge, 0, none⟩) l.ended.length ec)
    have z0 := HZ.cell (o := 0) rfl
    have z1 := HZ.cell (o := 1) rfl
    generalize l.ended.getD m 0 = old at *
    clear bx by_ bo bd y yy ys yo HZ bO
    go_wp2_with fail
    refine bodyPost_ret (v := .agg #[.slice sa' (l.steps.length + 1) sc', .slice (some ⟨ge, 0, none⟩) l.ended.length ec]) (by simp [results, Try.results36, go_sem, z0, z1]) rfl ?_
    exact F.out
  · have hb : (((occ m (l.steps ++ [(m : Int)]) : Nat) : Int) == max z 1) = false := beq_eq_false_iff_ne.2 hocc
    have hst2 : rstepP sizes l m = { steps := l.steps ++ [(m : Int)], ended := l.ended } := by rw [hst.out, if_neg hocc]
    replace hst2 := Lib.hid hst2
    clear hocc
    generalize occ m (l.steps ++ [(m : Int)]) = oc at *
    have F := Lib.hid (fin.out _ _ bx by_ bo bd hO.out rfl hst2.out)
    have HZ := (by_.set 0 (.slice sa' (l.steps.length + 1) sc')).set 1 (.slice (some ⟨ge, 0, none⟩) l.ended.length ec)
    have z0 := HZ.cell (o := 0) rfl
    have z1 := HZ.cell (o := 1) rfl
    clear bx by_ bo bd HZ bO
    go_wp2_with fail
    refine bodyPost_ret (v := .agg #[.slice sa' (l.steps.length + 1) sc', .slice (some ⟨ge, 0, none⟩) l.ended.length ec]) (by simp [results, Try.results36, go_sem, z0, z1]) rfl ?_
    exact F.out
end Go.Proofs.Ytdminbjenbbpaaa
