/- The reference's bases, Count, Digits, At. The reference's Count. The reference's Digits and At. crashset: Choice. CrashsetChoices: plain laws. -/
import Derived.Test.YtjmdibgncaljaaaK6
import Derived.Test.YtjmdibgncaljaaaE11
import Derived.Test.YtjmdibgncaljaaaF3
import Derived.Test.YtjmdibgncaljaaaP2
/-! The reference's bases, Count, Digits, At. -/
namespace Go.Proofs.Ytjmdibgncaljaaa.Dev
open Go.RowKit Go.Maps
variable {w : World} {F : Own} {o h T : Nat} {R : Dv}

def basesL (R : Dv) (ds : List Nat) : List Nat := ds.map (baseL R)
theorem basesL_snoc (R : Dv) (ds : List Nat) (l : Nat) : basesL R (ds ++ [l]) = basesL R ds ++ [baseL R l] := by unfold basesL; rw [List.map_append]; rfl
theorem u64s_snoc (l : List Nat) (n : Nat) : u64s (l ++ [n]) = u64s l ++ [.int .u64 (n : Int)] := by simp [u64s]
def NewU64 (w : World) (xs : List Nat) (e : Ending) (w' : World) : Prop := ∃ a c, e = .returned (.slice a xs.length c) ∧ Grow w w' 27 a xs.length c (u64s xs)
end Go.Proofs.Ytjmdibgncaljaaa.Dev

/-! The reference's Count. -/
namespace Go.Proofs.Ytjmdibgncaljaaa.Dev
open Go.RowKit Go.Maps
variable {w : World} {F : Own} {o h T : Nat} {R : Dv}
theorem gt_div (n b t : Nat) (hb : 0 < b) : t / b < n ↔ t < n * b := by
  rw [Nat.div_lt_iff_lt_mul hb]
end Go.Proofs.Ytjmdibgncaljaaa.Dev

/-! The reference's Digits and At. -/
namespace Go.Proofs.Ytjmdibgncaljaaa.Dev
open Go.RowKit Go.Maps
variable {w : World} {F : Own} {o h T : Nat} {R : Dv}
def RAtPost (w : World) (R : Dv) (n : Nat) (e : Ending) (w' : World) : Prop :=
  if atOk R n = true then ∃ a c, e = .returned (.tuple #[.slice a (atB R n).length c, .bool true]) ∧ Grow w w' 5 a (atB R n).length c (u8s (atB R n)) else e = .returned (.tuple #[.slice none 0 0, .bool false]) ∧ Below w.heap.size w w'
end Go.Proofs.Ytjmdibgncaljaaa.Dev

namespace Go.Proofs.Ytjmdibgncaljaaa.Dev
open Go.RowKit Go.Maps
variable {w : World} {F : Own} {o T : Nat} {R : Dv} {L : Lay}

/-- The choice string so far. -/
def chTo (dg : List Nat) (k : Nat) : List Nat := dg.take k ++ List.replicate (dg.length - k) 0
theorem chTo_len (dg : List Nat) (k : Nat) (h : k ≤ dg.length) : (chTo dg k).length = dg.length := by
  unfold chTo; rw [List.length_append, List.length_take, List.length_replicate]; omega
theorem chTo_step (dg : List Nat) (k : Nat) (h : k < dg.length) : (chTo dg k).set k (dg.getD k 0) = chTo dg (k + 1) := by
  unfold chTo
  have hl : (dg.take k).length = k := by rw [List.length_take]; omega
  rw [List.set_append_right _ _ (by rw [hl]; exact Nat.le_refl _), hl, Nat.sub_self, show dg.length - k = (dg.length - (k + 1)) + 1 by omega, List.replicate_succ, List.set_cons_zero, take_getD dg k 0 h, List.append_assoc]
  rfl
/-- No history of the lines is too long for a choice string. -/
def fitsB (R : Dv) (ds : List Nat) : Bool := ds.all fun l => decide ((R.line l).hist.length ≤ 255)
def ChoicePost (w : World) (R : Dv) (n : Nat) (e : Ending) (w' : World) : Prop :=
  Below w.heap.size w w' ∧ if atOk R n = true then
    if fitsB R (dirtyL R) = true then ∃ b, e = .returned (.tuple #[.slice (some ⟨b, 0, none⟩) (dirtyL R).length (dirtyL R).length, .int .i64 0]) ∧ Has w' b (u8s (digR R (dirtyL R) n)) 5 ∧ w.heap.size ≤ b
    else e = .returned (.tuple #[.slice none 0 0, .int .i64 9])
  else e = .returned (.tuple #[.slice none 0 0, .int .i64 2])
end Go.Proofs.Ytjmdibgncaljaaa.Dev

namespace Go.Proofs.Ytjmdibgncaljaaa.Dev
open Go.RowKit Go.Maps
variable {w : World} {F : Own} {o o' h T : Nat} {R : Dv} {L : Lay}

theorem playP_len (R : Dv) (xs : List Evt) : (playP R xs).lines.length = R.lines.length := by
  unfold playP
  induction xs generalizing R with
  | nil => rfl
  | cons x xs ih => rw [List.foldl_cons, ih, doP_len]
theorem image_digits {R : Dv} (n : Nat) : imageW R (digR R (dirtyL R) n) = crashW R (kOf R (digR R (dirtyL R) n)) := by
  unfold imageW
  refine crashW_congr _ _ _ (fun l hl => ?_)
  congr 1
  by_cases hd : 0 < (R.line l).hist.length
  · have h1 := dirty_lt hl hd
    have h2 := dirty_place hl hd
    have h3 := digR_le R _ n _ _ h2
    have h4 := digR_len R (dirtyL R) n
    have h5 : (dirtyTo R l).length % (digR R (dirtyL R) n).length = (dirtyTo R l).length := Nat.mod_eq_of_lt (by rw [h4]; exact h1)
    unfold chK kOf
    rw [if_neg (by intro e; rw [e] at h4; simp at h4; omega), if_pos hd, if_pos (by rw [h4]; exact h1), h5, Nat.mod_eq_of_lt (by omega)]
  · have := chK_le R (digR R (dirtyL R) n) l
    unfold kOf
    rw [if_neg hd]; omega
def prodR (R : Dv) : List Nat → Nat
  | [] => 1
  | l :: r => prodR R r * baseL R l
theorem prod_rl (R : Dv) (ds : List Nat) : prodL R ds = prodR R ds := by
  unfold prodL
  suffices h : ∀ t, ds.foldl (fun t l => t * baseL R l) t = t * prodR R ds from by rw [h 1, Nat.one_mul]
  induction ds with
  | nil => intro t; exact (Nat.mul_one t).symm
  | cons l r ih => intro t; rw [List.foldl_cons, ih, prodR, Nat.mul_assoc, Nat.mul_comm (baseL R l)]
theorem rest_div (R : Dv) : ∀ (ds : List Nat) (n : Nat), restR R ds n = n / prodR R ds
  | [], n => (Nat.div_one n).symm
  | l :: r, n => by rw [restR, rest_div R r n, prodR, Nat.div_div_eq_div_mul]
theorem rest_zero {R : Dv} {ds : List Nat} {n : Nat} (h : restR R ds n = 0) : n < prodL R ds := by
  have hp := prodL_pos R ds
  rw [rest_div] at h
  rw [prod_rl] at hp ⊢
  rcases Nat.div_eq_zero_iff.1 h with h | h <;> omega
theorem prod_le {R : Dv} {T : Nat} (hok : R.Ok T) (ds : List Nat) (hm : ∀ l ∈ ds, l < R.lines.length) : prodL R ds ≤ (T + 1) ^ ds.length := by
  rw [prod_rl]
  induction ds with
  | nil => exact Nat.le_refl _
  | cons l r ih =>
    rw [prodR, List.length_cons, Nat.pow_succ]
    have := (hok.ln l (hm l (List.mem_cons_self ..))).hl
    exact Nat.mul_le_mul (ih (fun x hx => hm x (List.mem_cons_of_mem _ hx))) (by unfold baseL; omega)
/-- A run of 30 events on at most 6 lines has few combinations. -/
theorem few {R : Dv} (hok : R.Ok 60) (hl : R.lines.length ≤ 6) : prodL R (dirtyL R) ≤ 51520374361 := by
  have h1 := prod_le hok (dirtyL R) (fun l hl => (dirtyTo_mem hl).1)
  have h2 : (dirtyL R).length ≤ R.lines.length := dirtyTo_len R R.lines.length
  have h3 : (60 + 1) ^ (dirtyL R).length ≤ 61 ^ 6 := Nat.pow_le_pow_right (by omega) (by omega)
  exact Nat.le_trans h1 (Nat.le_trans h3 (by decide))
theorem cnt_few {R : Dv} (hok : R.Ok 60) (hl : R.lines.length ≤ 6) : cntV R = (prodL R (dirtyL R), true) := by
  have := few hok hl
  unfold cntV; rw [if_pos (by omega)]
theorem fits60 {R : Dv} (hok : R.Ok 60) : fitsB R (dirtyL R) = true := by
  unfold fitsB
  rw [List.all_eq_true]
  intro l hl
  have := (hok.ln l (dirtyTo_mem hl).1).hl
  exact decide_eq_true (by omega)
theorem addr_add' (b off j : Nat) : (⟨b, off, none⟩ : Addr).add j = ⟨b, off + j, none⟩ := by
  unfold Addr.add
  split
  · simp_all
  · simp
theorem _root_.Go.Proofs.Ytjmdibgncaljaaa.Rd.str {w : World} {a : Option Addr} {c : Nat} {bs : List Nat} (hr : Rd w (.slice a bs.length c) bs.length (u8s bs)) (hb : ∀ x ∈ bs, x < 256) (hn : 0 < bs.length) : Str w (.slice a bs.length c) (strOf bs) := by
  intro w' hB
  obtain ⟨bl, ol, cl, ea, fa⟩ := (hr.kept hB).cells hn
  simp only [Value.slice.injEq, true_and] at ea
  obtain ⟨rfl, hc⟩ := ea
  have := run_convert_bytes_back (P := Try.prog) w' 28 9 5 ⟨bl, ol, none⟩ c (bs.map UInt8.ofNat) Try.underlying28 Try.underlying5 Try.underlying9 (fun j hj => by
    simp only [List.length_map] at hj
    have hat := get_of_lt 0 hj
    have hx := hb _ (List.mem_of_getElem? hat)
    have := fa _ _ (u8s_get bs j _ hat)
    rw [addr_add' bl ol j, this]
    exact byte_at hj hx)
  rw [List.length_map] at this
  exact this
theorem BytesRd.s {w : World} {bs : List Nat} {e : Ending} {w' : World} (h : BytesRd w bs e w') (hb : ∀ x ∈ bs, x < 256) (hn : 0 < bs.length) : SPost w (strOf bs) e w' := by
  obtain ⟨a, c, h1, h2, h3⟩ := h
  exact ⟨_, h1, h2.str hb hn, h3⟩
end Go.Proofs.Ytjmdibgncaljaaa.Dev
