/- Encodings of rows, plain: the program's way of decoding and the reference's agree; a row that was encoded is decoded as it was. No program in sight. Quoted texts and numbers as literals, plain. No program in sight. Numbers and literals, plain: what Literal and Text give, and that each is the other's inverse. No program in sight. The order of values, plain: the program's and the reference's agree, and it is an order. No program in sight. -/
import Derived.Test.YtgnoikfmhncbmaaGreatDoorVal
import Derived.Lib.Replace
import Derived.Lib.IndexLaws
import Derived.Lib.CountLaws
import Derived.Lib.ItoaNum
import Derived.Lib.ParseIntB
import Derived.Lib.SlTrimSet
import Derived.Lib.Strings
import Derived.Lib.Bytealg
import Derived.Lib.Small
set_option linter.unusedVariables false
set_option linter.unusedSimpArgs false
namespace Go.Proofs.YtgnoikfmhncbmaaGreatDoor
open Go.Lib

/-- A column: name, type, null, since, default. -/
structure CV where
  nm : ByteArray
  ty : Nat
  nl : Bool
  sc : Int
  df : RV

/-- The bytes of a text as numbers. -/
def natsOf (l : List UInt8) : List Nat := l.map UInt8.toNat
def bytesOf (l : List Nat) : List UInt8 := l.map UInt8.ofNat
theorem bytes_nats (l : List UInt8) : bytesOf (natsOf l) = l := by
  unfold bytesOf natsOf
  rw [List.map_map]
  conv => rhs; rw [← List.map_id l]
  apply List.map_congr_left
  intro a _
  simp
theorem nats_bytes (l : List Nat) (h : ∀ x ∈ l, x < 256) : natsOf (bytesOf l) = l := by
  unfold bytesOf natsOf
  rw [List.map_map]
  conv => rhs; rw [← List.map_id l]
  apply List.map_congr_left
  intro a ha
  have := h a ha
  simp [UInt8.toNat_ofNat']
  omega
def strOfNats (l : List Nat) : ByteArray := ⟨(bytesOf l).toArray⟩

def b4 (n : Int) : List Nat := [(n % 256).toNat, (n / 256 % 256).toNat, (n / 65536 % 256).toNat, (n / 16777216 % 256).toNat]
def encV (v : RV) : List Nat :=
  if v.nl then [] else if v.ty = 1 then b4 v.n else if v.ty = 2 then (v.tx.size % 256) :: natsOf v.tx.data.toList else [if v.b then 1 else 0]
def nulls : List RV → Nat
  | [] => 0
  | v :: r => (if v.nl then 1 else 0) + 2 * nulls r
theorem nulls_cons (v : RV) (r : List RV) : nulls (v :: r) = (if v.nl then 1 else 0) + 2 * nulls r := rfl
def encR (r : List RV) : List Nat := r.flatMap encV
def encP (ver : Nat) (r : List RV) : List Nat := ver % 256 :: ver / 256 % 256 :: nulls r :: encR r
theorem nulls_lt : ∀ r : List RV, nulls r < 2 ^ r.length
  | [] => by simp [nulls]
  | v :: r => by
    have := nulls_lt r
    rw [List.length_cons, Nat.pow_succ]
    unfold nulls
    split <;> omega
theorem nulls_snoc : ∀ (r : List RV) (v : RV), nulls (r ++ [v]) = nulls r + (if v.nl then 2 ^ r.length else 0)
  | [], v => by simp [nulls]
  | x :: r, v => by
    rw [List.cons_append]
    unfold nulls
    rw [nulls_snoc r v, List.length_cons, Nat.pow_succ]
    split <;> split <;> omega

def i32 (a b c d : Nat) : Int := if d < 128 then ((a + 256 * b + 65536 * c + 16777216 * d : Nat) : Int) else ((a + 256 * b + 65536 * c + 16777216 * d : Nat) : Int) - 4294967296
theorem i32_b4 (n : Int) (h1 : -2147483648 ≤ n) (h2 : n < 2147483648) : i32 (n % 256).toNat (n / 256 % 256).toNat (n / 65536 % 256).toNat (n / 16777216 % 256).toNat = n := by
  unfold i32
  split <;> omega
theorem b4_i32 (a b c d : Nat) (ha : a < 256) (hb : b < 256) (hc : c < 256) (hd : d < 256) : b4 (i32 a b c d) = [a, b, c, d] := by
  unfold b4 i32
  split
  · simp only [List.cons.injEq, and_true]
    omega
  · simp only [List.cons.injEq, and_true]
    omega

def zeroV (ty : Nat) (nl : Bool) : RV := ⟨ty, nl, 0, ByteArray.empty, false⟩
/-- A value off the head, as the program reads it: with too few bytes it is zero, and nothing is left. -/
def laxP (ty : Nat) (p : List Nat) : RV × List Nat :=
  if p.length < (if ty = 1 then 4 else if ty = 2 ∧ 0 < p.length then 1 + p.getD 0 0 else 1) then (zeroV ty false, [])
  else if ty = 1 then ({ zeroV ty false with n := i32 (p.getD 0 0) (p.getD 1 0) (p.getD 2 0) (p.getD 3 0) }, p.drop 4)
  else if ty = 2 then ({ zeroV ty false with tx := strOfNats ((p.take (1 + p.getD 0 0)).drop 1) }, p.drop (1 + p.getD 0 0))
  else ({ zeroV ty false with b := decide (p.getD 0 0 ≠ 0) }, p.drop 1)
/-- A value off the head, as the reference reads it. -/
def strictP (ty : Nat) (p : List Nat) : Option (RV × List Nat) :=
  if ty = 1 then (if p.length < 4 then none else some ({ zeroV ty false with n := i32 (p.getD 0 0) (p.getD 1 0) (p.getD 2 0) (p.getD 3 0) }, p.drop 4))
  else if ty = 2 then (if p.length < 1 ∨ p.length < 1 + p.getD 0 0 then none else some ({ zeroV ty false with tx := strOfNats ((p.take (1 + p.getD 0 0)).drop 1) }, p.drop (1 + p.getD 0 0)))
  else if p.length < 1 ∨ 1 < p.getD 0 0 then none else some ({ zeroV ty false with b := decide (p.getD 0 0 = 1) }, p.drop 1)

theorem size_strOfNats (l : List Nat) : (strOfNats l).size = l.length := by
  show (bytesOf l).toArray.size = _
  simp [bytesOf]
theorem list_strOfNats (l : List Nat) : (strOfNats l).data.toList = bytesOf l := rfl
/-- A strict reading is a lax one, and what was read is the value's encoding. -/
theorem strict_some (ty : Nat) (hty : 1 ≤ ty ∧ ty ≤ 3) (p : List Nat) (hp : ∀ x ∈ p, x < 256) (x : RV) (r : List Nat) (h : strictP ty p = some (x, r)) :
    laxP ty p = (x, r) ∧ p = encV x ++ r ∧ x.nl = false ∧ (∀ y ∈ r, y < 256) := by
  unfold strictP at h
  obtain rfl | rfl | rfl : ty = 1 ∨ ty = 2 ∨ ty = 3 := by omega
  · rw [if_pos rfl] at h
    split at h
    · cases h
    · rename_i hl
      cases h
      match p, hl with
      | a :: b :: c :: d :: r, _ =>
        refine ⟨by unfold laxP; rw [if_neg (by simp), if_pos rfl], ?_, rfl, fun y hy => hp y (List.mem_of_mem_drop hy)⟩
        simp only [List.getD_cons_zero, List.getD_cons_succ, List.drop_succ_cons, List.drop_zero]
        show _ = b4 _ ++ _
        rw [b4_i32 a b c d (hp a (by simp)) (hp b (by simp)) (hp c (by simp)) (hp d (by simp))]
        rfl
      | [], hl | [_], hl | [_, _], hl | [_, _, _], hl => simp at hl
  · rw [if_neg (by omega), if_pos rfl] at h
    split at h
    · cases h
    · rename_i hl
      cases h
      match p, hl with
      | a :: t, hl =>
        simp only [List.getD_cons_zero, List.length_cons] at hl ⊢
        have hat : a ≤ t.length := by omega
        have ha := hp a (by simp)
        have e1 : (List.drop 1 (List.take (1 + a) (a :: t))) = t.take a := by rw [Nat.add_comm]; rfl
        have e2 : List.drop (1 + a) (a :: t) = t.drop a := by rw [Nat.add_comm]; rfl
        have htb : ∀ x ∈ t.take a, x < 256 := fun x hx => hp x (List.mem_cons_of_mem _ (List.mem_of_mem_take hx))
        rw [e1, e2]
        refine ⟨?_, ?_, rfl, fun y hy => hp y (List.mem_cons_of_mem _ (List.mem_of_mem_drop hy))⟩
        · unfold laxP
          rw [if_neg (by simp; omega), if_neg (by omega), if_pos rfl]
          simp only [List.getD_cons_zero]
          rw [e1, e2]
        · show _ = ((strOfNats (t.take a)).size % 256) :: natsOf (bytesOf (t.take a)) ++ _
          rw [size_strOfNats, nats_bytes _ htb, List.length_take, Nat.min_eq_left hat, Nat.mod_eq_of_lt ha, List.cons_append, List.take_append_drop]
      | [], hl => simp at hl
  · rw [if_neg (by omega), if_neg (by omega)] at h
    split at h
    · cases h
    · rename_i hl
      cases h
      match p, hl with
      | a :: t, hl =>
        simp only [List.getD_cons_zero, List.length_cons] at hl ⊢
        refine ⟨?_, ?_, rfl, fun y hy => hp y (List.mem_cons_of_mem _ hy)⟩
        · unfold laxP
          rw [if_neg (by simp), if_neg (by omega), if_neg (by omega)]
          simp only [List.getD_cons_zero, List.drop_succ_cons, List.drop_zero]
          have e : decide (a ≠ 0) = decide (a = 1) := by rw [Bool.eq_iff_iff]; simp; omega
          rw [e]
        · show _ = [if decide (a = 1) = true then 1 else 0] ++ t
          by_cases h1 : a = 1
          · subst h1; rfl
          · have h0 : a = 0 := by omega
            subst h0; rfl
      | [], hl => simp at hl
/-- Where the strict reading fails, no encoding of what the program reads lies there. -/
theorem strict_none (ty : Nat) (hty : 1 ≤ ty ∧ ty ≤ 3) (p : List Nat) (h : strictP ty p = none) (t : List Nat) : p ≠ encV (laxP ty p).1 ++ t := by
  unfold strictP at h
  obtain rfl | rfl | rfl : ty = 1 ∨ ty = 2 ∨ ty = 3 := by omega
  · rw [if_pos rfl] at h
    split at h
    · rename_i hl
      intro e
      have hlx : (laxP 1 p).1 = zeroV 1 false := by unfold laxP; rw [if_pos (by simpa using hl)]
      rw [hlx] at e
      have : p.length = 4 + t.length := by rw [e]; simp [encV, zeroV, b4]; omega
      omega
    · cases h
  · rw [if_neg (by omega), if_pos rfl] at h
    split at h
    · rename_i hl
      intro e
      have hlx : (laxP 2 p).1 = zeroV 2 false := by
        unfold laxP
        rw [if_pos]
        rw [if_neg (by omega)]
        split <;> omega
      rw [hlx] at e
      have e2 : p = 0 :: t := by rw [e]; rfl
      rw [e2] at hl
      simp at hl
    · cases h
  · rw [if_neg (by omega), if_neg (by omega)] at h
    split at h
    · rename_i hl
      intro e
      match p, hl, e with
      | [], _, e =>
        have hlx : (laxP 3 []).1 = zeroV 3 false := rfl
        rw [hlx] at e
        simp [encV, zeroV] at e
      | a :: s, hl, e =>
        simp at hl
        have hlx : (laxP 3 (a :: s)).1 = { zeroV 3 false with b := true } := by
          unfold laxP
          rw [if_neg (by simp), if_neg (by omega), if_neg (by omega)]
          simp
          omega
        rw [hlx] at e
        simp [encV, zeroV] at e
        omega
    · cases h

/-- The program's loop over the columns; the bits of the null values shifted by those behind. -/
def decGo (ver : Int) : List CV → Nat → List Nat → Option (List RV)
  | [], _, _ => some []
  | c :: cs, nb, p =>
    if ver < c.sc then some []
    else if nb % 2 = 1 then (if fitsP c.ty c.nl (zeroV c.ty true) ≠ 0 then none else (decGo ver cs (nb / 2) p).map (zeroV c.ty true :: ·))
    else if fitsP c.ty c.nl (laxP c.ty p).1 ≠ 0 then none else (decGo ver cs (nb / 2) (laxP c.ty p).2).map ((laxP c.ty p).1 :: ·)
/-- The reference's. -/
def refGo (ver : Int) : List CV → Nat → List Nat → Option (List RV × List Nat)
  | [], _, p => some ([], p)
  | c :: cs, nb, p =>
    if ver < c.sc then (if nb % 2 = 1 then none else (refGo ver cs (nb / 2) p).map fun x => (c.df :: x.1, x.2))
    else if nb % 2 = 1 then (if fitsP c.ty c.nl (zeroV c.ty true) ≠ 0 then none else (refGo ver cs (nb / 2) p).map fun x => (zeroV c.ty true :: x.1, x.2))
    else match strictP c.ty p with
      | none => none
      | some (x, r) => if fitsP c.ty c.nl x ≠ 0 then none else (refGo ver cs (nb / 2) r).map fun y => (x :: y.1, y.2)
/-- Since a version, columns only come later. -/
def Asc (ver : Int) : List CV → Prop
  | [] => True
  | c :: cs => (ver < c.sc → ∀ d ∈ cs, ver < d.sc) ∧ Asc ver cs
theorem refGo_later (ver : Int) : ∀ (cs : List CV) (nb : Nat) (p : List Nat), (∀ c ∈ cs, ver < c.sc) → refGo ver cs nb p = if nb % 2 ^ cs.length = 0 then some (cs.map CV.df, p) else none
  | [], nb, p, _ => by simp [refGo, Nat.mod_one]
  | c :: cs, nb, p, h => by
    unfold refGo
    rw [if_pos (h c (by simp)), refGo_later ver cs (nb / 2) p (fun d hd => h d (by simp [hd])), List.length_cons, Nat.pow_succ]
    have e : nb % (2 ^ cs.length * 2) = nb % 2 + 2 * (nb / 2 % 2 ^ cs.length) := by rw [Nat.mul_comm, Nat.mod_mul]
    by_cases h1 : nb % 2 = 1
    · rw [if_pos h1, if_neg (by omega)]
    · rw [if_neg h1]
      by_cases h2 : nb / 2 % 2 ^ cs.length = 0
      · rw [if_pos h2, if_pos (by omega)]; rfl
      · rw [if_neg h2, if_neg (by omega)]; rfl
/-- What the program accepts, and the reference. -/
def progOk (ver : Int) (cs : List CV) (nb : Nat) (p : List Nat) : Option (List RV) :=
  match decGo ver cs nb p with
  | none => none
  | some r => if p = encR r ∧ nb = nulls r then some (r ++ (cs.drop r.length).map CV.df) else none
def refOk (ver : Int) (cs : List CV) (nb : Nat) (p : List Nat) : Option (List RV) :=
  match refGo ver cs nb p with
  | none => none
  | some (r, t) => if t = [] ∧ nb / 2 ^ cs.length = 0 then some r else none
theorem prog_ref (ver : Int) : ∀ (cs : List CV) (nb : Nat) (p : List Nat), (∀ c ∈ cs, 1 ≤ c.ty ∧ c.ty ≤ 3) → Asc ver cs → (∀ x ∈ p, x < 256) → progOk ver cs nb p = refOk ver cs nb p
  | [], nb, p, _, _, _ => by
    simp only [progOk, refOk, decGo, refGo, encR, nulls, List.flatMap_nil, List.length_nil, Nat.pow_zero, Nat.div_one, List.drop_nil, List.map_nil, List.append_nil]
  | c :: cs, nb, p, ht, ha, hp => by
    obtain ⟨ha1, ha2⟩ := ha
    have htc := ht c (by simp)
    have ih := fun nb p hp => prog_ref ver cs nb p (fun d hd => ht d (by simp [hd])) ha2 hp
    by_cases hv : ver < c.sc
    · have hl : ∀ d ∈ c :: cs, ver < d.sc := by
        intro d hd
        rcases List.mem_cons.1 hd with rfl | hd
        · exact hv
        · exact ha1 hv d hd
      unfold progOk refOk
      rw [refGo_later ver (c :: cs) nb p hl]
      unfold decGo
      rw [if_pos hv]
      simp only [encR, nulls, List.flatMap_nil, List.length_nil, List.drop_zero, List.nil_append]
      have hpow : 0 < 2 ^ (c :: cs).length := Nat.pow_pos (by omega)
      by_cases hnb : nb = 0
      · subst hnb
        simp
      · rw [if_neg (by omega)]
        by_cases hm : nb % 2 ^ (c :: cs).length = 0
        · rw [if_pos hm]
          simp only
          rw [if_neg]
          intro ⟨_, h2⟩
          have := Nat.div_add_mod nb (2 ^ (c :: cs).length)
          rw [h2, hm] at this
          omega
        · rw [if_neg hm]
    · have hdiv : nb / 2 ^ (c :: cs).length = nb / 2 / 2 ^ cs.length := by
        rw [List.length_cons, Nat.pow_succ, Nat.mul_comm, Nat.div_div_eq_div_mul]
      by_cases hb : nb % 2 = 1
      · have i1 := ih (nb / 2) p hp
        unfold progOk refOk at i1 ⊢
        unfold decGo refGo
        rw [if_neg hv, if_neg hv, if_pos hb, if_pos hb, hdiv]
        by_cases hf : fitsP c.ty c.nl (zeroV c.ty true) ≠ 0
        · rw [if_pos hf, if_pos hf]
        · rw [if_neg hf, if_neg hf]
          cases hd : decGo ver cs (nb / 2) p with
          | none =>
            rw [hd] at i1
            cases hr : refGo ver cs (nb / 2) p with
            | none => rfl
            | some x =>
              obtain ⟨r, t⟩ := x
              rw [hr] at i1
              simp only [Option.map_none, Option.map_some] at i1 ⊢
              split at i1
              · cases i1
              · rename_i hc; rw [if_neg hc]
          | some r =>
            rw [hd] at i1
            simp only [Option.map_some] at i1 ⊢
            have e1 : (p = encR (zeroV c.ty true :: r) ∧ nb = nulls (zeroV c.ty true :: r)) ↔ (p = encR r ∧ nb / 2 = nulls r) := by
              have e : encR (zeroV c.ty true :: r) = encR r := by simp [encR, encV, zeroV]
              rw [e, nulls_cons]
              simp only [zeroV, if_true]
              constructor
              · rintro ⟨h1, h2⟩; exact ⟨h1, by omega⟩
              · rintro ⟨h1, h2⟩; exact ⟨h1, by omega⟩
            cases hr : refGo ver cs (nb / 2) p with
            | none =>
              rw [hr] at i1
              simp only [Option.map_none] at i1 ⊢
              split at i1
              · cases i1
              · rename_i hc; rw [if_neg (by rw [e1]; exact hc)]
            | some x =>
              obtain ⟨q, t⟩ := x
              rw [hr] at i1
              simp only [Option.map_some] at i1 ⊢
              by_cases hc : p = encR r ∧ nb / 2 = nulls r
              · rw [if_pos hc] at i1
                rw [if_pos (e1.2 hc)]
                split at i1
                · rename_i h2
                  rw [if_pos h2]
                  cases i1
                  rfl
                · cases i1
              · rw [if_neg hc] at i1
                rw [if_neg (by rw [e1]; exact hc)]
                split at i1
                · cases i1
                · rename_i h2; rw [if_neg h2]
      · cases hs : strictP c.ty p with
        | none =>
          have hn := strict_none c.ty htc p hs
          unfold progOk refOk decGo refGo
          rw [if_neg hv, if_neg hv, if_neg hb, if_neg hb, hs]
          simp only
          split
          · rfl
          · rename_i r hr
            split at hr
            · cases hr
            · cases hd : decGo ver cs (nb / 2) (laxP c.ty p).2 with
              | none => rw [hd] at hr; cases hr
              | some r' =>
                rw [hd] at hr
                simp only [Option.map_some, Option.some.injEq] at hr
                subst hr
                rw [if_neg]
                rintro ⟨h1, _⟩
                exact hn (encR r') h1
        | some xr =>
          obtain ⟨x, t0⟩ := xr
          obtain ⟨hlax, hpx, hxn, ht0⟩ := strict_some c.ty htc p hp x t0 hs
          have i1 := ih (nb / 2) t0 ht0
          unfold progOk refOk at i1 ⊢
          unfold decGo refGo
          rw [if_neg hv, if_neg hv, if_neg hb, if_neg hb, hs, hlax, hdiv]
          simp only
          by_cases hf : fitsP c.ty c.nl x ≠ 0
          · rw [if_pos hf, if_pos hf]
          · rw [if_neg hf, if_neg hf]
            cases hd : decGo ver cs (nb / 2) t0 with
            | none =>
              rw [hd] at i1
              cases hr : refGo ver cs (nb / 2) t0 with
              | none => rfl
              | some y =>
                obtain ⟨r, t⟩ := y
                rw [hr] at i1
                simp only [Option.map_none, Option.map_some] at i1 ⊢
                split at i1
                · cases i1
                · rename_i hc; rw [if_neg hc]
            | some r =>
              rw [hd] at i1
              simp only [Option.map_some] at i1 ⊢
              have e1 : (p = encR (x :: r) ∧ nb = nulls (x :: r)) ↔ (t0 = encR r ∧ nb / 2 = nulls r) := by
                have e : encR (x :: r) = encV x ++ encR r := rfl
                rw [e, hpx, List.append_cancel_left_eq, nulls_cons, hxn]
                simp only [Bool.false_eq_true, if_false]
                constructor
                · rintro ⟨h1, h2⟩; exact ⟨h1, by omega⟩
                · rintro ⟨h1, h2⟩; exact ⟨h1, by omega⟩
              cases hr : refGo ver cs (nb / 2) t0 with
              | none =>
                rw [hr] at i1
                simp only [Option.map_none] at i1 ⊢
                split at i1
                · cases i1
                · rename_i hc; rw [if_neg (by rw [e1]; exact hc)]
              | some y =>
                obtain ⟨q, t⟩ := y
                rw [hr] at i1
                simp only [Option.map_some] at i1 ⊢
                by_cases hc : t0 = encR r ∧ nb / 2 = nulls r
                · rw [if_pos hc] at i1
                  rw [if_pos (e1.2 hc)]
                  split at i1
                  · rename_i h2
                    rw [if_pos h2]
                    cases i1
                    rfl
                  · cases i1
                · rw [if_neg hc] at i1
                  rw [if_neg (by rw [e1]; exact hc)]
                  split at i1
                  · cases i1
                  · rename_i h2; rw [if_neg h2]

/-! ### what was encoded is decoded as it was -/
def fitsGo : List CV → List RV → Nat
  | c :: cs, v :: r => if fitsP c.ty c.nl v ≠ 0 then fitsP c.ty c.nl v else fitsGo cs r
  | _, _ => 0
/-- The error number of a row for columns. -/
def rowP (cs : List CV) (r : List RV) : Nat := if cs.length ≠ r.length then 1 else fitsGo cs r
theorem empty_of {a : ByteArray} (h : a.data.toList = []) : a = ByteArray.empty := by
  obtain ⟨d⟩ := a
  have : d = #[] := by simpa using h
  subst this; rfl
theorem form_parts {v : RV} (h : formP v = 0) : (1 ≤ v.ty ∧ v.ty ≤ 3) ∧ (v.ty ≠ 1 ∨ v.nl = true → v.n = 0) ∧ (v.ty ≠ 2 ∨ v.nl = true → v.tx = ByteArray.empty) ∧ (v.ty ≠ 3 ∨ v.nl = true → v.b = false) ∧
    (-2147483648 ≤ v.n ∧ v.n < 2147483648) ∧ validD v.tx.data.toList = true ∧ v.tx.size ≤ 200 := by
  unfold formP at h
  split at h
  · cases h
  rename_i h1
  split at h
  · cases h
  rename_i h2
  split at h
  · cases h
  rename_i h3
  simp only [not_or, not_and, Bool.not_eq_true, Bool.not_eq_false] at h1 h2
  obtain ⟨a1, a2, a3, a4, a5⟩ := h1
  refine ⟨⟨by omega, by omega⟩, ?_, ?_, ?_, by omega, h2.2.2, by omega⟩
  · intro h
    apply Classical.byContradiction
    intro hn
    obtain ⟨b1, b2⟩ := a3 hn
    rcases h with h | h
    · exact b2 h
    · rw [b1] at h; cases h
  · intro h
    apply empty_of
    apply Classical.byContradiction
    intro hn
    obtain ⟨b1, b2⟩ := a4 hn
    rcases h with h | h
    · exact b2 h
    · rw [b1] at h; cases h
  · intro h
    apply Classical.byContradiction
    intro hn
    obtain ⟨b1, b2⟩ := a5 (by simpa using hn)
    rcases h with h | h
    · exact b2 h
    · rw [b1] at h; cases h
theorem strOf_nats (a : ByteArray) : strOfNats (natsOf a.data.toList) = a := by
  unfold strOfNats
  rw [bytes_nats]
theorem strict_enc (v : RV) (hv : formP v = 0) (hn : v.nl = false) (t : List Nat) : strictP v.ty (encV v ++ t) = some (v, t) := by
  obtain ⟨⟨h1, h2⟩, hN, hT, hB, hr, _, hsz⟩ := form_parts hv
  obtain ⟨ty, nl, n, tx, b⟩ := v
  simp only at h1 h2 hN hT hB hr hsz hn ⊢
  subst hn
  obtain rfl | rfl | rfl : ty = 1 ∨ ty = 2 ∨ ty = 3 := by omega
  · rw [hT (.inl (by omega)), hB (.inl (by omega))]
    show (if 1 = 1 then (if (b4 n ++ t).length < 4 then none else _) else _) = _
    have e0 : encV ⟨1, false, n, ByteArray.empty, false⟩ = b4 n := rfl
    rw [if_pos rfl, if_neg (by simp [b4]), e0]
    simp only [b4, List.cons_append, List.nil_append, List.getD_cons_zero, List.getD_cons_succ, List.drop_succ_cons, List.drop_zero]
    rw [i32_b4 n hr.1 hr.2]
    rfl
  · rw [hN (.inl (by omega)), hB (.inl (by omega))]
    have e : encV ⟨2, false, 0, tx, false⟩ = tx.size :: natsOf tx.data.toList := by
      show (tx.size % 256) :: _ = _
      rw [Nat.mod_eq_of_lt (by omega)]
    rw [e]
    have hl : (natsOf tx.data.toList).length = tx.size := by unfold natsOf; rw [List.length_map, Array.length_toList]; rfl
    unfold strictP
    rw [if_neg (by omega), if_pos rfl]
    simp only [List.cons_append, List.getD_cons_zero, List.length_cons, List.length_append]
    rw [if_neg (by omega), Nat.add_comm 1 tx.size]
    simp only [List.take_succ_cons, List.drop_succ_cons, List.drop_zero]
    rw [List.take_left' hl, List.drop_left' hl, strOf_nats]
    rfl
  · rw [hN (.inl (by omega)), hT (.inl (by omega))]
    unfold strictP
    rw [if_neg (by omega), if_neg (by omega)]
    cases b
    · rfl
    · rfl
theorem refGo_enc (ver : Int) (more : List CV) (hm : ∀ c ∈ more, ver < c.sc) : ∀ (cs : List CV) (r : List RV) (t : List Nat), cs.length = r.length → fitsGo cs r = 0 → (∀ c ∈ cs, ¬ ver < c.sc) →
    refGo ver (cs ++ more) (nulls r) (encR r ++ t) = some (r ++ more.map CV.df, t)
  | [], [], t, _, _, _ => by
    rw [List.nil_append, refGo_later ver more _ _ hm]
    simp [nulls, encR]
  | c :: cs, v :: r, t, hl, hf, hc => by
    unfold fitsGo at hf
    split at hf
    · rename_i h; exact absurd hf h
    rename_i hfv
    have ih := refGo_enc ver more hm cs r
    have hfv0 : fitsP c.ty c.nl v = 0 := by omega
    have hty : v.ty = c.ty ∧ formP v = 0 := by
      unfold fitsP at hfv0
      split at hfv0
      · cases hfv0
      · rename_i h; exact ⟨by omega, hfv0⟩
    rw [List.cons_append]
    unfold refGo
    rw [if_neg (hc c (by simp))]
    have e1 : nulls (v :: r) / 2 = nulls r := by rw [nulls_cons]; split <;> omega
    have hl2 : cs.length = r.length := by simpa using hl
    cases hn : v.nl with
    | true =>
      have e2 : nulls (v :: r) % 2 = 1 := by rw [nulls_cons, hn, if_pos rfl]; omega
      obtain ⟨_, hN, hT, hB, _⟩ := form_parts hty.2
      have ev : zeroV c.ty true = v := by
        obtain ⟨ty, nl, n, tx, b⟩ := v
        simp only at hn hN hT hB hty
        subst hn
        rw [hN (.inr rfl), hT (.inr rfl), hB (.inr rfl), hty.1]; rfl
      have ee : encR (v :: r) = encR r := by show encV v ++ encR r = _; unfold encV; rw [hn, if_pos rfl]; rfl
      rw [if_pos e2, ev, if_neg hfv, e1, ee, ih t hl2 hf (fun d hd => hc d (by simp [hd]))]
      rfl
    | false =>
      have e2 : ¬ nulls (v :: r) % 2 = 1 := by rw [nulls_cons, hn]; simp
      have ee : encR (v :: r) ++ t = encV v ++ (encR r ++ t) := by show (encV v ++ encR r) ++ t = _; rw [List.append_assoc]
      rw [if_neg e2, ee, ← hty.1, strict_enc v hty.2 hn]
      simp only
      rw [hty.1, if_neg hfv, e1, ih t hl2 hf (fun d hd => hc d (by simp [hd]))]
      rfl
  | [], _ :: _, _, hl, _, _ => by simp at hl
  | _ :: _, [], _, hl, _, _ => by simp at hl
theorem refOk_enc (ver : Int) (cs more : List CV) (r : List RV) (hm : ∀ c ∈ more, ver < c.sc) (hl : cs.length = r.length) (hf : fitsGo cs r = 0) (hc : ∀ c ∈ cs, ¬ ver < c.sc) :
    refOk ver (cs ++ more) (nulls r) (encR r) = some (r ++ more.map CV.df) := by
  have h := refGo_enc ver more hm cs r [] hl hf hc
  rw [List.append_nil] at h
  unfold refOk
  rw [h]
  have h0 : nulls r < 2 ^ (cs.length + more.length) := Nat.lt_of_lt_of_le (nulls_lt r) (Nat.pow_le_pow_right (by omega) (by omega))
  simp [h0]
end Go.Proofs.YtgnoikfmhncbmaaGreatDoor

namespace Go.Proofs.YtgnoikfmhncbmaaGreatDoor
open Go.Lib

def dbl : List UInt8 → List UInt8
  | [] => []
  | c :: r => if c = 39 then 39 :: 39 :: dbl r else c :: dbl r
def rep2 : List UInt8 → List UInt8
  | [] => []
  | [c] => [c]
  | c :: d :: r => if c = 39 ∧ d = 39 then 39 :: rep2 r else c :: rep2 (d :: r)
def unq : List UInt8 → Option (List UInt8)
  | [] => some []
  | [c] => if c = 39 then none else some [c]
  | c :: d :: r => if c = 39 then (if d = 39 then (unq r).map (39 :: ·) else none) else (unq (d :: r)).map (c :: ·)
theorem unq_dbl : ∀ t : List UInt8, unq (dbl t) = some t
  | [] => rfl
  | c :: r => by
    have ih := unq_dbl r
    unfold dbl
    split
    · rename_i h
      subst h
      unfold unq
      rw [if_pos rfl, if_pos rfl, ih]; rfl
    · rename_i h
      cases hd : dbl r with
      | nil =>
        rw [hd] at ih
        have : r = [] := by unfold unq at ih; simpa using ih.symm
        subst this
        unfold unq
        rw [if_neg h]
      | cons d q =>
        rw [hd] at ih
        unfold unq
        rw [if_neg h, ih]; rfl
theorem unq_some : ∀ (l t : List UInt8), unq l = some t → dbl t = l ∧ rep2 l = t
  | [], t, h => by unfold unq at h; cases h; exact ⟨rfl, rfl⟩
  | [c], t, h => by
    unfold unq at h
    split at h
    · cases h
    · rename_i hc
      cases h
      refine ⟨?_, rfl⟩
      unfold dbl
      rw [if_neg hc]; rfl
  | c :: d :: r, t, h => by
    unfold unq at h
    split at h
    · rename_i hc
      split at h
      · rename_i hd
        cases hu : unq r with
        | none => rw [hu] at h; cases h
        | some t' =>
          rw [hu] at h
          cases h
          obtain ⟨h1, h2⟩ := unq_some r t' hu
          refine ⟨?_, ?_⟩
          · unfold dbl; rw [if_pos rfl, h1, hc, hd]
          · unfold rep2; rw [if_pos ⟨hc, hd⟩, h2]
      · cases h
    · rename_i hc
      cases hu : unq (d :: r) with
      | none => rw [hu] at h; cases h
      | some t' =>
        rw [hu] at h
        cases h
        obtain ⟨h1, h2⟩ := unq_some (d :: r) t' hu
        refine ⟨?_, ?_⟩
        · unfold dbl; rw [if_neg hc, h1]
        · unfold rep2; rw [if_neg (fun e => hc e.1), h2]
theorem unq_none (l : List UInt8) (h : unq l = none) : dbl (rep2 l) ≠ l := by
  intro e
  have := unq_dbl (rep2 l)
  rw [e, h] at this
  cases this
theorem dbl_len : ∀ l : List UInt8, (dbl l).length ≤ 2 * l.length
  | [] => by simp [dbl]
  | c :: r => by
    have := dbl_len r
    unfold dbl
    split <;> simp <;> omega
theorem rep2_len : ∀ l : List UInt8, (rep2 l).length ≤ l.length
  | [] => by simp [rep2]
  | [c] => by simp [rep2]
  | c :: d :: r => by
    have h1 := rep2_len r
    have h2 := rep2_len (d :: r)
    unfold rep2
    split
    · simp; omega
    · simp only [List.length_cons] at h2 ⊢; omega

/-! ### the library's ReplaceAll -/
def rk (old new s : List UInt8) : List UInt8 := replaceK old new (count s old) s
theorem replaceAll_rk (s old new : List UInt8) (h : (old == new) = false) : replaceAll s old new = rk old new s := by
  unfold replaceAll replace rk
  rw [if_neg (by rw [h]; simp)]
  unfold replaceNum
  rw [if_pos (.inl (by omega))]
theorem rk_hit (old new s : List UInt8) (hne : old ≠ []) (h : occAt s old 0 = true) : rk old new s = new ++ rk old new (s.drop old.length) := by
  have hi : index s old = ((0 : Nat) : Int) := index_hit (NoOcc.zero _ _) (Nat.zero_le _) h
  unfold rk
  rw [count_hit hne hi, Nat.add_comm, replaceK_hit old new _ s 0 hi]
  simp
theorem rk_miss (old new : List UInt8) (c : UInt8) (t : List UInt8) (hne : old ≠ []) (h : occAt (c :: t) old 0 = false) : rk old new (c :: t) = c :: rk old new t := by
  have h1 : NoOcc (c :: t) old 1 := (NoOcc.zero _ _).succ h
  have hi := index_drop h1 (by simp)
  simp only [List.drop_succ_cons, List.drop_zero] at hi
  unfold rk
  have hg := index_ge t old
  by_cases hm : index t old = -1
  · have hi2 : index (c :: t) old = -1 := by rw [hi, if_pos (by rw [hm]; rfl)]
    rw [count_miss hm, count_miss hi2]; rfl
  · obtain ⟨i, hi3⟩ : ∃ i : Nat, index t old = i := ⟨(index t old).toNat, by omega⟩
    have hi2 : index (c :: t) old = ((i + 1 : Nat) : Int) := by rw [hi, if_neg (by simp [hm]), hi3]; rfl
    have e : (c :: t).drop (i + 1 + old.length) = t.drop (i + old.length) := by
      have e1 : i + 1 + old.length = (i + old.length) + 1 := by omega
      rw [e1, List.drop_succ_cons]
    rw [count_hit hne hi2, count_hit hne hi3, e, Nat.add_comm 1, replaceK_hit old new _ (c :: t) (i + 1) hi2, replaceK_hit old new _ t i hi3, e]
    simp
theorem rk_nil (old new : List UInt8) (hne : old ≠ []) : rk old new [] = [] := by
  have hi : index [] old = -1 := by
    cases old with
    | nil => exact absurd rfl hne
    | cons a b => rfl
  unfold rk
  rw [count_miss hi]; rfl
theorem repl_dbl : ∀ s : List UInt8, rk [39] [39, 39] s = dbl s
  | [] => rk_nil _ _ (by simp)
  | c :: t => by
    unfold dbl
    by_cases h : c = 39
    · subst h
      rw [if_pos rfl, rk_hit _ _ _ (by simp) (by simp [occAt, List.isPrefixOf])]
      show [39, 39] ++ rk [39] [39, 39] t = _
      rw [repl_dbl t]; rfl
    · rw [if_neg h, rk_miss _ _ _ _ (by simp) (by simp [occAt, List.isPrefixOf, Ne.symm h]), repl_dbl t]
theorem repl_rep2 : ∀ s : List UInt8, rk [39, 39] [39] s = rep2 s
  | [] => rk_nil _ _ (by simp)
  | [c] => by rw [rk_miss _ _ _ _ (by simp) (by simp [occAt, List.isPrefixOf]), rk_nil _ _ (by simp)]; rfl
  | c :: d :: r => by
    unfold rep2
    by_cases h : c = 39 ∧ d = 39
    · obtain ⟨rfl, rfl⟩ := h
      rw [if_pos ⟨rfl, rfl⟩, rk_hit _ _ _ (by simp) (by simp [occAt, List.isPrefixOf])]
      show [39] ++ rk [39, 39] [39] r = _
      rw [repl_rep2 r]; rfl
    · rw [if_neg h, rk_miss _ _ _ _ (by simp) ?_, repl_rep2 (d :: r)]
      simp only [occAt, List.drop_zero, List.isPrefixOf, Bool.and_true, Bool.and_eq_false_iff, beq_eq_false_iff_ne]
      by_cases hc : c = 39
      · right; intro e; exact h ⟨hc, e.symm⟩
      · left; exact fun e => hc e.symm
theorem replaceAll_dbl (s : List UInt8) : replaceAll s [39] [39, 39] = dbl s := by rw [replaceAll_rk _ _ _ rfl, repl_dbl]
theorem replaceAll_rep2 (s : List UInt8) : replaceAll s [39, 39] [39] = rep2 s := by rw [replaceAll_rk _ _ _ rfl, repl_rep2]
end Go.Proofs.YtgnoikfmhncbmaaGreatDoor

namespace Go.Proofs.YtgnoikfmhncbmaaGreatDoor
open Go.Lib

def allDig (l : List UInt8) : Bool := l.all fun c => decide (48 ≤ c.toNat) && decide (c.toNat ≤ 57)
def valFrom : Nat → List UInt8 → Nat
  | a, [] => a
  | a, c :: r => valFrom (a * 10 + (c.toNat - 48)) r
def capFrom : Nat → List UInt8 → Nat
  | a, [] => a
  | a, c :: r => capFrom (min (10 * a + (c.toNat - 48)) 1099511627776) r
theorem cap_val : ∀ (l : List UInt8) (a : Nat), capFrom (min a 1099511627776) l = min (valFrom a l) 1099511627776
  | [], a => rfl
  | c :: r, a => by
    show capFrom (min (10 * min a 1099511627776 + (c.toNat - 48)) 1099511627776) r = _
    have e : min (10 * min a 1099511627776 + (c.toNat - 48)) 1099511627776 = min (a * 10 + (c.toNat - 48)) 1099511627776 := by omega
    rw [e, cap_val r]; rfl
theorem val_ge : ∀ (l : List UInt8) (a : Nat), a ≤ valFrom a l
  | [], a => Nat.le_refl _
  | c :: r, a => by have := val_ge r (a * 10 + (c.toNat - 48)); show a ≤ valFrom _ r; omega
theorem val_snoc : ∀ (l : List UInt8) (a : Nat) (c : UInt8), valFrom a (l ++ [c]) = valFrom a l * 10 + (c.toNat - 48)
  | [], a, c => rfl
  | x :: r, a, c => by rw [List.cons_append]; exact val_snoc r _ c
theorem allDig_cons {c : UInt8} {r : List UInt8} (h : allDig (c :: r) = true) : (48 ≤ c.toNat ∧ c.toNat ≤ 57) ∧ allDig r = true := by
  unfold allDig at h ⊢
  simp only [List.all_cons, Bool.and_eq_true, decide_eq_true_eq] at h
  exact ⟨h.1, h.2⟩
theorem parse_dig : ∀ (l : List UInt8) (a : Nat), a ≤ 4294967295 → allDig l = true → parseUintM 4294967295 a l = if valFrom a l ≤ 4294967295 then .ok (valFrom a l) else .range
  | [], a, h, _ => by show NumEnd.ok a = if a ≤ 4294967295 then NumEnd.ok a else NumEnd.range; rw [if_pos h]
  | c :: r, a, h, hd => by
    obtain ⟨h1, h2⟩ := allDig_cons hd
    unfold parseUintM
    rw [if_pos h1, if_neg (by omega)]
    by_cases hv : 4294967295 < a * 10 + (c.toNat - 48)
    · rw [if_pos hv, if_neg]
      have := val_ge r (a * 10 + (c.toNat - 48))
      show ¬ valFrom _ r ≤ _
      omega
    · rw [if_neg hv, parse_dig r _ (by omega) h2]; rfl
theorem parse_pos (l : List UInt8) (hne : l ≠ []) (hd : allDig l = true) : parseIntB 32 l = if valFrom 0 l < 2147483648 then .ok (valFrom 0 l : Int) else .range := by
  cases l with
  | nil => exact absurd rfl hne
  | cons c r =>
    obtain ⟨h1, _⟩ := allDig_cons hd
    unfold parseIntB
    simp only
    rw [if_neg (by omega)]
    unfold parseUintB
    rw [if_neg (by simp)]
    have e : 2 ^ 32 - 1 = 4294967295 := rfl
    rw [e, parse_dig _ 0 (by omega) hd]
    by_cases hv : valFrom 0 (c :: r) ≤ 4294967295
    · rw [if_pos hv]
      simp only
      by_cases h2 : valFrom 0 (c :: r) < 2147483648
      · rw [if_pos h2, if_neg (by omega), if_neg (by omega), if_neg (by omega)]
      · rw [if_neg h2, if_pos (by constructor <;> omega)]
    · rw [if_neg hv, if_neg (by omega)]
theorem parse_neg (l : List UInt8) (hne : l ≠ []) (hd : allDig l = true) : parseIntB 32 (45 :: l) = if valFrom 0 l ≤ 2147483648 then .ok (-(valFrom 0 l : Int)) else .range := by
  unfold parseIntB
  simp only
  have e45 : (45 : UInt8).toNat = 45 := rfl
  rw [if_pos (.inr e45)]
  unfold parseUintB
  rw [if_neg hne]
  have e : 2 ^ 32 - 1 = 4294967295 := rfl
  rw [e, parse_dig _ 0 (by omega) hd]
  by_cases hv : valFrom 0 l ≤ 4294967295
  · rw [if_pos hv]
    simp only [e45]
    by_cases h2 : valFrom 0 l ≤ 2147483648
    · rw [if_pos h2, if_neg (by simp), if_neg (by simp; omega)]; rfl
    · rw [if_neg h2, if_neg (by simp), if_pos (by simp; omega)]
  · rw [if_neg hv, if_neg (by omega)]

/-! ### Trim of the digits -/
def digs : List UInt8 := [48, 49, 50, 51, 52, 53, 54, 55, 56, 57]
theorem digs_fin : ∀ n : Fin 256, digs.contains (UInt8.ofNat n.val) = (decide (48 ≤ n.val) && decide (n.val ≤ 57)) := by decide +kernel
theorem digs_contains (c : UInt8) : digs.contains c = (decide (48 ≤ c.toNat) && decide (c.toNat ≤ 57)) := by
  have := digs_fin ⟨c.toNat, c.toNat_lt⟩
  simpa using this
theorem tw_mem (p : UInt8 → Bool) : ∀ l : List UInt8, ∀ x ∈ l.takeWhile p, p x = true
  | [], x, h => by simp at h
  | c :: r, x, h => by
    rw [List.takeWhile_cons] at h
    by_cases hc : p c = true
    · rw [if_pos hc] at h
      rcases List.mem_cons.1 h with rfl | h
      · exact hc
      · exact tw_mem p r x h
    · rw [if_neg hc] at h; simp at h
theorem dw_nil (p : UInt8 → Bool) : ∀ l : List UInt8, l.dropWhile p = [] ↔ ∀ x ∈ l, p x = true
  | [] => by simp
  | c :: r => by
    rw [List.dropWhile_cons]
    by_cases h : p c = true
    · rw [if_pos h, dw_nil p r]; simp [h]
    · rw [if_neg h]; simp [h]
theorem trim_digs (l : List UInt8) : trimS l digs = [] ↔ allDig l = true := by
  have hall : allDig l = true ↔ ∀ c ∈ l, digs.contains c = true := by
    unfold allDig
    rw [List.all_eq_true]
    constructor
    · intro h c hc; rw [digs_contains]; exact h c hc
    · intro h c hc; rw [← digs_contains]; exact h c hc
  rw [hall]
  unfold trimS trimLeftS trimRightS
  rw [dw_nil]
  constructor
  · intro h c hc
    have hm : c ∈ l.reverse := List.mem_reverse.2 hc
    rw [← List.takeWhile_append_dropWhile (p := (digs.contains ·)) (l := l.reverse), List.mem_append] at hm
    rcases hm with hm | hm
    · exact tw_mem _ _ c hm
    · exact h c (List.mem_reverse.2 hm)
  · intro h c hc
    rw [List.mem_reverse] at hc
    exact h c (List.mem_reverse.1 (List.dropWhile_sublist _ |>.mem hc))

/-! ### decimal digits -/
theorem dec_dig (u : Nat) : allDig (decDigits u) = true ∧ valFrom 0 (decDigits u) = u ∧ decDigits u ≠ [] ∧ (0 < u → (decDigits u).head? ≠ some 48) := by
  induction u using Nat.strongRecOn with
  | ind u ih =>
    unfold decDigits
    by_cases h : u < 10
    · rw [dif_pos h]
      have e : (UInt8.ofNat (48 + u)).toNat = 48 + u := by rw [UInt8.toNat_ofNat']; omega
      refine ⟨by unfold allDig; simp only [List.all_cons, List.all_nil, e]; simp; omega, by show 0 * 10 + ((UInt8.ofNat (48 + u)).toNat - 48) = u; rw [e]; omega, by simp, ?_⟩
      intro hu hh
      simp only [List.head?_cons, Option.some.injEq] at hh
      rw [hh] at e
      simp at e
      omega
    · rw [dif_neg h]
      obtain ⟨h1, h2, h3, h4⟩ := ih (u / 10) (by omega)
      have e : (UInt8.ofNat (48 + u % 10)).toNat = 48 + u % 10 := by rw [UInt8.toNat_ofNat']; omega
      refine ⟨?_, ?_, by simp, ?_⟩
      · unfold allDig at h1 ⊢
        rw [List.all_append, h1]
        simp only [List.all_cons, List.all_nil, e]
        simp
        omega
      · rw [val_snoc, h2, e]; omega
      · intro _
        cases hd : decDigits (u / 10) with
        | nil => exact absurd hd h3
        | cons c r =>
          rw [hd] at h4
          exact h4 (by omega)
theorem val_dec1 : ∀ (l : List UInt8) (a : Nat), 0 < a → allDig l = true → decDigits (valFrom a l) = decDigits a ++ l
  | [], a, _, _ => by rw [show valFrom a [] = a from rfl, List.append_nil]
  | c :: r, a, ha, hd => by
    obtain ⟨h1, h2⟩ := allDig_cons hd
    have ec : UInt8.ofNat (48 + (c.toNat - 48)) = c := by
      have : 48 + (c.toNat - 48) = c.toNat := by omega
      rw [this]; simp
    show decDigits (valFrom (a * 10 + (c.toNat - 48)) r) = _
    rw [val_dec1 r _ (by omega) h2]
    have e1 : (a * 10 + (c.toNat - 48)) / 10 = a := by omega
    have e2 : (a * 10 + (c.toNat - 48)) % 10 = c.toNat - 48 := by omega
    rw [decDigits, dif_neg (by omega), e1, e2, ec]
    simp
theorem val_dec (l : List UInt8) (hne : l ≠ []) (hd : allDig l = true) (h0 : l.head? ≠ some 48 ∨ l = [48]) : decDigits (valFrom 0 l) = l ∧ (l.head? ≠ some 48 → 0 < valFrom 0 l) := by
  cases l with
  | nil => exact absurd rfl hne
  | cons c r =>
    obtain ⟨h1, h2⟩ := allDig_cons hd
    rcases h0 with h0 | h0
    · have hc : c.toNat ≠ 48 := fun e => h0 (by rw [List.head?_cons]; congr 1; exact UInt8.toNat_inj.1 (by rw [e]; rfl))
      have ec : UInt8.ofNat (48 + (c.toNat - 48)) = c := by
        have : 48 + (c.toNat - 48) = c.toNat := by omega
        rw [this]; simp
      have hv : valFrom 0 (c :: r) = valFrom (c.toNat - 48) r := by show valFrom (0 * 10 + (c.toNat - 48)) r = _; rw [Nat.zero_mul, Nat.zero_add]
      rw [hv, val_dec1 r _ (by omega) h2, decDigits_one (show c.toNat - 48 < 10 by omega), ec]
      refine ⟨rfl, fun _ => ?_⟩
      have := val_ge r (c.toNat - 48)
      omega
    · cases h0
      exact ⟨by rw [show valFrom 0 [48] = 0 from rfl, decDigits_one (by omega)]; rfl, fun h => absurd rfl h⟩

/-! ### Text and Literal -/
def nullL : List UInt8 := [110, 117, 108, 108]
def trueL : List UInt8 := [116, 114, 117, 101]
def falseL : List UInt8 := [102, 97, 108, 115, 101]
def textP (v : RV) : List UInt8 :=
  if formP v ≠ 0 then [] else if v.nl then nullL else if v.ty = 1 then itoa v.n else if v.ty = 2 then 39 :: dbl v.tx.data.toList ++ [39] else if v.b then trueL else falseL
def badV : RV := ⟨0, false, 0, ByteArray.empty, false⟩
/-- What lies between the quotes. -/
def quotP (s : List UInt8) : RV × Nat :=
  match unq s with
  | none => (badV, 11)
  | some t => if validD t = false then (badV, 11) else if 200 < t.length then (badV, 9) else (⟨2, false, 0, ⟨t.toArray⟩, false⟩, 0)
def isQ (s : List UInt8) : Bool := decide (2 ≤ s.length) && (s.getD 0 0 == 39) && (s.getD (s.length - 1) 0 == 39)
def numP (s : List UInt8) : RV × Nat :=
  let d := trimPrefix s [45]
  if allDig d = false ∨ d = [] ∨ (d.getD 0 0 = 48 ∧ s ≠ [48]) then (badV, 11)
  else match parseIntB 32 s with
    | .ok n => (⟨1, false, n, ByteArray.empty, false⟩, 0)
    | _ => (badV, 16)
def litP (s : List UInt8) : RV × Nat :=
  if s = nullL then (⟨0, true, 0, ByteArray.empty, false⟩, 0)
  else if s = trueL ∨ s = falseL then (⟨3, false, 0, ByteArray.empty, decide (s = trueL)⟩, 0)
  else if isQ s then quotP ((s.take (s.length - 1)).drop 1)
  else numP s
end Go.Proofs.YtgnoikfmhncbmaaGreatDoor

namespace Go.Proofs.YtgnoikfmhncbmaaGreatDoor
open Go.Lib

theorem cb_range : ∀ a b : List UInt8, compareBytes a b = -1 ∨ compareBytes a b = 0 ∨ compareBytes a b = 1
  | [], [] => by simp [compareBytes]
  | [], _ :: _ => by simp [compareBytes]
  | _ :: _, [] => by simp [compareBytes]
  | a :: as, b :: bs => by
    have := cb_range as bs
    unfold compareBytes
    split
    · simp
    · split
      · simp
      · exact this
theorem cb_neg : ∀ a b : List UInt8, compareBytes b a = - compareBytes a b
  | [], [] => by simp [compareBytes]
  | [], _ :: _ => by simp [compareBytes]
  | _ :: _, [] => by simp [compareBytes]
  | a :: as, b :: bs => by
    have ih := cb_neg as bs
    unfold compareBytes
    by_cases h1 : a < b
    · have h2 : ¬ b < a := by rw [UInt8.lt_iff_toNat_lt] at *; omega
      rw [if_pos h1, if_neg h2, if_pos h1]; rfl
    · by_cases h2 : b < a
      · rw [if_pos h2, if_neg h1, if_pos h2]
      · rw [if_neg h1, if_neg h2, if_neg h2, if_neg h1, ih]
theorem cb_self (a : List UInt8) : compareBytes a a = 0 := by
  have := cb_neg a a
  omega
theorem cb_eq : ∀ a b : List UInt8, compareBytes a b = 0 → a = b
  | [], [], _ => rfl
  | [], _ :: _, h => by simp [compareBytes] at h
  | _ :: _, [], h => by simp [compareBytes] at h
  | a :: as, b :: bs, h => by
    unfold compareBytes at h
    split at h
    · cases h
    · rename_i h1
      split at h
      · cases h
      · rename_i h2
        have e : a = b := by
          rw [UInt8.lt_iff_toNat_lt] at *
          exact UInt8.toNat_inj.1 (by omega)
        rw [e, cb_eq as bs h]
theorem cb_trans : ∀ a b c : List UInt8, compareBytes a b ≤ 0 → compareBytes b c ≤ 0 → compareBytes a c ≤ 0
  | [], b, c, _, _ => by cases c <;> simp [compareBytes]
  | a :: as, [], c, h, _ => by simp [compareBytes] at h
  | a :: as, b :: bs, [], _, h => by simp [compareBytes] at h
  | a :: as, b :: bs, c :: cs, h1, h2 => by
    have ih := cb_trans as bs cs
    unfold compareBytes at h1 h2 ⊢
    simp only [UInt8.lt_iff_toNat_lt] at *
    by_cases ac : a.toNat < c.toNat
    · rw [if_pos ac]; omega
    · rw [if_neg ac]
      by_cases ca : c.toNat < a.toNat
      · exfalso
        by_cases ab : a.toNat < b.toNat
        · rw [if_neg (show ¬ b.toNat < c.toNat by omega), if_pos (show c.toNat < b.toNat by omega)] at h2
          omega
        · rw [if_neg ab] at h1
          by_cases ba : b.toNat < a.toNat
          · rw [if_pos ba] at h1; omega
          · rw [if_neg (show ¬ b.toNat < c.toNat by omega), if_pos (show c.toNat < b.toNat by omega)] at h2
            omega
      · rw [if_neg ca]
        by_cases ab : a.toNat < b.toNat
        · rw [if_neg (show ¬ b.toNat < c.toNat by omega), if_pos (show c.toNat < b.toNat by omega)] at h2
          omega
        · rw [if_neg ab] at h1
          by_cases ba : b.toNat < a.toNat
          · rw [if_pos ba] at h1; omega
          · rw [if_neg ba] at h1
            rw [if_neg (show ¬ b.toNat < c.toNat by omega), if_neg (show ¬ c.toNat < b.toNat by omega)] at h2
            exact ih h1 h2

def b2i (b : Bool) : Int := if b then 1 else 0
/-- The program's: the first of four comparisons that is not 0. -/
def cmpV (a b : RV) : Int :=
  if compareInt (b2i b.nl) (b2i a.nl) ≠ 0 then compareInt (b2i b.nl) (b2i a.nl)
  else if compareInt a.n b.n ≠ 0 then compareInt a.n b.n
  else if compareInt (b2i a.b) (b2i b.b) ≠ 0 then compareInt (b2i a.b) (b2i b.b)
  else compareBytes a.tx.data.toList b.tx.data.toList
def rankV (v : RV) : Int := if v.nl then -1099511627776 else if v.b then 1 else v.n
/-- The reference's. -/
def cmpR (a b : RV) : Int :=
  if rankV a < rankV b ∨ compareBytes a.tx.data.toList b.tx.data.toList < 0 then -1
  else if rankV b < rankV a ∨ 0 < compareBytes a.tx.data.toList b.tx.data.toList then 1 else 0
theorem emp_list : ByteArray.empty.data.toList = [] := rfl
/-- At valid values of one type: by rank, then by text; only texts that are not null have a text, and their rank is 0. -/
theorem cmp_rank {a b : RV} (ha : formP a = 0) (hb : formP b = 0) (ht : a.ty = b.ty) :
    cmpV a b = if rankV a < rankV b then -1 else if rankV b < rankV a then 1 else compareBytes a.tx.data.toList b.tx.data.toList := by
  obtain ⟨a0, a1, a2, a3, a4, _, _⟩ := form_parts ha
  obtain ⟨b0, b1, b2, b3, b4, _, _⟩ := form_parts hb
  obtain ⟨ta, na, ia, xa, ba⟩ := a
  obtain ⟨tb, nb, ib, xb, bb⟩ := b
  simp only at *
  subst ht
  unfold cmpV rankV compareInt b2i
  simp only
  obtain rfl | rfl | rfl : ta = 1 ∨ ta = 2 ∨ ta = 3 := by omega
  · obtain rfl := a2 (.inl (by omega))
    obtain rfl := b2 (.inl (by omega))
    obtain rfl := a3 (.inl (by omega))
    obtain rfl := b3 (.inl (by omega))
    cases na <;> cases nb <;> simp at * <;> (repeat' split) <;> first | rfl | omega
  · obtain rfl := a1 (.inl (by omega))
    obtain rfl := b1 (.inl (by omega))
    obtain rfl := a3 (.inl (by omega))
    obtain rfl := b3 (.inl (by omega))
    cases na <;> cases nb <;> simp at * <;> (repeat' split) <;> first | rfl | omega
  · obtain rfl := a1 (.inl (by omega))
    obtain rfl := b1 (.inl (by omega))
    obtain rfl := a2 (.inl (by omega))
    obtain rfl := b2 (.inl (by omega))
    cases na <;> cases nb <;> cases ba <;> cases bb <;> simp at * <;> rfl
theorem rank_text {a b : RV} (ha : formP a = 0) (hb : formP b = 0) (ht : a.ty = b.ty) :
    (rankV a < rankV b → 0 ≥ compareBytes a.tx.data.toList b.tx.data.toList) ∧ (rankV b < rankV a → 0 ≤ compareBytes a.tx.data.toList b.tx.data.toList) := by
  obtain ⟨a0, a1, a2, a3, a4, _, _⟩ := form_parts ha
  obtain ⟨b0, b1, b2, b3, b4, _, _⟩ := form_parts hb
  obtain ⟨ta, na, ia, xa, ba⟩ := a
  obtain ⟨tb, nb, ib, xb, bb⟩ := b
  simp only at *
  subst ht
  have e1 : ∀ l, compareBytes [] l ≤ 0 := fun l => by cases l <;> simp [compareBytes]
  have e2 : ∀ l, 0 ≤ compareBytes l [] := fun l => by cases l <;> simp [compareBytes]
  by_cases h2 : ta = 2
  · subst h2
    obtain rfl := a1 (.inl (by omega))
    obtain rfl := b1 (.inl (by omega))
    obtain rfl := a3 (.inl (by omega))
    obtain rfl := b3 (.inl (by omega))
    unfold rankV
    cases na
    · cases nb
      · simp
      · obtain rfl := b2 (.inr rfl)
        simp only [emp_list]
        exact ⟨fun h => by simp at h, fun _ => e2 _⟩
    · obtain rfl := a2 (.inr rfl)
      simp only [emp_list]
      exact ⟨fun _ => e1 _, fun h => by cases nb <;> simp at h⟩
  · obtain rfl := a2 (.inl h2)
    obtain rfl := b2 (.inl h2)
    rw [cb_self]
    exact ⟨fun _ => Int.le_refl _, fun _ => Int.le_refl _⟩
theorem cmp_same {a b : RV} (ha : formP a = 0) (hb : formP b = 0) (ht : a.ty = b.ty) : cmpV a b = cmpR a b := by
  obtain ⟨h1, h2⟩ := rank_text ha hb ht
  have hr := cb_range a.tx.data.toList b.tx.data.toList
  rw [cmp_rank ha hb ht]
  unfold cmpR
  (repeat' split) <;> omega
theorem cmp_neg {a b : RV} (ha : formP a = 0) (hb : formP b = 0) (ht : a.ty = b.ty) : cmpV b a = - cmpV a b := by
  rw [cmp_rank ha hb ht, cmp_rank hb ha ht.symm, cb_neg a.tx.data.toList]
  (repeat' split) <;> omega
theorem cmp_self {a : RV} (ha : formP a = 0) : cmpV a a = 0 := by
  have := cmp_neg ha ha rfl
  omega
theorem cmp_range {a b : RV} (ha : formP a = 0) (hb : formP b = 0) (ht : a.ty = b.ty) : cmpV a b = -1 ∨ cmpV a b = 0 ∨ cmpV a b = 1 := by
  have hr := cb_range a.tx.data.toList b.tx.data.toList
  rw [cmp_rank ha hb ht]
  (repeat' split) <;> omega
theorem cmp_trans {a b c : RV} (ha : formP a = 0) (hb : formP b = 0) (hc : formP c = 0) (h1 : a.ty = b.ty) (h2 : b.ty = c.ty) :
    (cmpV a b ≤ 0 → cmpV b c ≤ 0 → cmpV a c ≤ 0) ∧ (cmpV a b = 0 → cmpV b c = cmpV a c) := by
  rw [cmp_rank ha hb h1, cmp_rank hb hc h2, cmp_rank ha hc (h1.trans h2)]
  have t1 := cb_trans a.tx.data.toList b.tx.data.toList c.tx.data.toList
  refine ⟨?_, ?_⟩
  · (repeat' split) <;> first | omega | (intro h3 h4; exact t1 h3 h4)
  · intro h
    split at h
    · cases h
    · split at h
      · cases h
      · have e := cb_eq _ _ h
        have er : rankV a = rankV b := by omega
        rw [e, er]
end Go.Proofs.YtgnoikfmhncbmaaGreatDoor
