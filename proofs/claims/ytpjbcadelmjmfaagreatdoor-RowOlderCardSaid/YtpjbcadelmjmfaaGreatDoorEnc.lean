/- Encodings of rows, plain: the program's way of decoding and the reference's agree; a row that was encoded is decoded as it was. No program in sight. -/
import Derived.Test.YtpjbcadelmjmfaaGreatDoorVal
namespace Go.Proofs.YtpjbcadelmjmfaaGreatDoor
open Go.Lib

/-- A column: name, type, null, since, default. -/
structure CV where
  nm : ByteArray
  ty : Nat
  nl : Bool
  sc : Int
  df : RV

/-- The bytes of a text as numbers. -/
def natsOf (l : List UInt8) : List Nat := l.map UInt8.toNat
def bytesOf (l : List Nat) : List UInt8 := l.map UInt8.ofNat
theorem bytes_nats (l : List UInt8) : bytesOf (natsOf l) = l := by
  unfold bytesOf natsOf
  rw [List.map_map]
  conv => rhs; rw [← List.map_id l]
  apply List.map_congr_left
  intro a _
  simp
theorem nats_bytes (l : List Nat) (h : ∀ x ∈ l, x < 256) : natsOf (bytesOf l) = l := by
  unfold bytesOf natsOf
  rw [List.map_map]
  conv => rhs; rw [← List.map_id l]
  apply List.map_congr_left
  intro a ha
  have := h a ha
  simp [UInt8.toNat_ofNat']
  omega
def strOfNats (l : List Nat) : ByteArray := ⟨(bytesOf l).toArray⟩

def b4 (n : Int) : List Nat := [(n % 256).toNat, (n / 256 % 256).toNat, (n / 65536 % 256).toNat, (n / 16777216 % 256).toNat]
def encV (v : RV) : List Nat :=
  if v.nl then [] else if v.ty = 1 then b4 v.n else if v.ty = 2 then (v.tx.size % 256) :: natsOf v.tx.data.toList else [if v.b then 1 else 0]
def nulls : List RV → Nat
  | [] => 0
  | v :: r => (if v.nl then 1 else 0) + 2 * nulls r
theorem nulls_cons (v : RV) (r : List RV) : nulls (v :: r) = (if v.nl then 1 else 0) + 2 * nulls r := rfl
def encR (r : List RV) : List Nat := r.flatMap encV
def encP (ver : Nat) (r : List RV) : List Nat := ver % 256 :: ver / 256 % 256 :: nulls r :: encR r
theorem nulls_lt : ∀ r : List RV, nulls r < 2 ^ r.length
  | [] => by simp [nulls]
  | v :: r => by
    have := nulls_lt r
    rw [List.length_cons, Nat.pow_succ]
    unfold nulls
    split <;> omega
theorem nulls_snoc : ∀ (r : List RV) (v : RV), nulls (r ++ [v]) = nulls r + (if v.nl then 2 ^ r.length else 0)
  | [], v => by simp [nulls]
  | x :: r, v => by
    rw [List.cons_append]
    unfold nulls
    rw [nulls_snoc r v, List.length_cons, Nat.pow_succ]
    split <;> split <;> omega

def i32 (a b c d : Nat) : Int := if d < 128 then ((a + 256 * b + 65536 * c + 16777216 * d : Nat) : Int) else ((a + 256 * b + 65536 * c + 16777216 * d : Nat) : Int) - 4294967296
theorem i32_b4 (n : Int) (h1 : -2147483648 ≤ n) (h2 : n < 2147483648) : i32 (n % 256).toNat (n / 256 % 256).toNat (n / 65536 % 256).toNat (n / 16777216 % 256).toNat = n := by
  unfold i32
  split <;> omega
theorem b4_i32 (a b c d : Nat) (ha : a < 256) (hb : b < 256) (hc : c < 256) (hd : d < 256) : b4 (i32 a b c d) = [a, b, c, d] := by
  unfold b4 i32
  split
  · simp only [List.cons.injEq, and_true]
    omega
  · simp only [List.cons.injEq, and_true]
    omega

def zeroV (ty : Nat) (nl : Bool) : RV := ⟨ty, nl, 0, ByteArray.empty, false⟩
/-- A value off the head, as the program reads it: with too few bytes it is zero, and nothing is left. -/
def laxP (ty : Nat) (p : List Nat) : RV × List Nat :=
  if p.length < (if ty = 1 then 4 else if ty = 2 ∧ 0 < p.length then 1 + p.getD 0 0 else 1) then (zeroV ty false, [])
  else if ty = 1 then ({ zeroV ty false with n := i32 (p.getD 0 0) (p.getD 1 0) (p.getD 2 0) (p.getD 3 0) }, p.drop 4)
  else if ty = 2 then ({ zeroV ty false with tx := strOfNats ((p.take (1 + p.getD 0 0)).drop 1) }, p.drop (1 + p.getD 0 0))
  else ({ zeroV ty false with b := decide (p.getD 0 0 ≠ 0) }, p.drop 1)
/-- A value off the head, as the reference reads it. -/
def strictP (ty : Nat) (p : List Nat) : Option (RV × List Nat) :=
  if ty = 1 then (if p.length < 4 then none else some ({ zeroV ty false with n := i32 (p.getD 0 0) (p.getD 1 0) (p.getD 2 0) (p.getD 3 0) }, p.drop 4))
  else if ty = 2 then (if p.length < 1 ∨ p.length < 1 + p.getD 0 0 then none else some ({ zeroV ty false with tx := strOfNats ((p.take (1 + p.getD 0 0)).drop 1) }, p.drop (1 + p.getD 0 0)))
  else if p.length < 1 ∨ 1 < p.getD 0 0 then none else some ({ zeroV ty false with b := decide (p.getD 0 0 = 1) }, p.drop 1)

theorem size_strOfNats (l : List Nat) : (strOfNats l).size = l.length := by
  show (bytesOf l).toArray.size = _
  simp [bytesOf]
theorem list_strOfNats (l : List Nat) : (strOfNats l).data.toList = bytesOf l := rfl
/-- A strict reading is a lax one, and what was read is the value's encoding. -/
theorem strict_some (ty : Nat) (hty : 1 ≤ ty ∧ ty ≤ 3) (p : List Nat) (hp : ∀ x ∈ p, x < 256) (x : RV) (r : List Nat) (h : strictP ty p = some (x, r)) :
    laxP ty p = (x, r) ∧ p = encV x ++ r ∧ x.nl = false ∧ (∀ y ∈ r, y < 256) := by
  unfold strictP at h
  obtain rfl | rfl | rfl : ty = 1 ∨ ty = 2 ∨ ty = 3 := by omega
  · rw [if_pos rfl] at h
    split at h
    · cases h
    · rename_i hl
      cases h
      match p, hl with
      | a :: b :: c :: d :: r, _ =>
        refine ⟨by unfold laxP; rw [if_neg (by simp), if_pos rfl], ?_, rfl, fun y hy => hp y (List.mem_of_mem_drop hy)⟩
        simp only [List.getD_cons_zero, List.getD_cons_succ, List.drop_succ_cons, List.drop_zero]
        show _ = b4 _ ++ _
        rw [b4_i32 a b c d (hp a (by simp)) (hp b (by simp)) (hp c (by simp)) (hp d (by simp))]
        rfl
      | [], hl | [_], hl | [_, _], hl | [_, _, _], hl => simp at hl
  · rw [if_neg (by omega), if_pos rfl] at h
    split at h
    · cases h
    · rename_i hl
      cases h
      match p, hl with
      | a :: t, hl =>
        simp only [List.getD_cons_zero, List.length_cons] at hl ⊢
        have hat : a ≤ t.length := by omega
        have ha := hp a (by simp)
        have e1 : (List.drop 1 (List.take (1 + a) (a :: t))) = t.take a := by rw [Nat.add_comm]; rfl
        have e2 : List.drop (1 + a) (a :: t) = t.drop a := by rw [Nat.add_comm]; rfl
        have htb : ∀ x ∈ t.take a, x < 256 := fun x hx => hp x (List.mem_cons_of_mem _ (List.mem_of_mem_take hx))
        rw [e1, e2]
        refine ⟨?_, ?_, rfl, fun y hy => hp y (List.mem_cons_of_mem _ (List.mem_of_mem_drop hy))⟩
        · unfold laxP
          rw [if_neg (by simp; omega), if_neg (by omega), if_pos rfl]
          simp only [List.getD_cons_zero]
          rw [e1, e2]
        · show _ = ((strOfNats (t.take a)).size % 256) :: natsOf (bytesOf (t.take a)) ++ _
          rw [size_strOfNats, nats_bytes _ htb, List.length_take, Nat.min_eq_left hat, Nat.mod_eq_of_lt ha, List.cons_append, List.take_append_drop]
      | [], hl => simp at hl
  · rw [if_neg (by omega), if_neg (by omega)] at h
    split at h
    · cases h
    · rename_i hl
      cases h
      match p, hl with
      | a :: t, hl =>
        simp only [List.getD_cons_zero, List.length_cons] at hl ⊢
        refine ⟨?_, ?_, rfl, fun y hy => hp y (List.mem_cons_of_mem _ hy)⟩
        · unfold laxP
          rw [if_neg (by simp), if_neg (by omega), if_neg (by omega)]
          simp only [List.getD_cons_zero, List.drop_succ_cons, List.drop_zero]
          have e : decide (a ≠ 0) = decide (a = 1) := by rw [Bool.eq_iff_iff]; simp; omega
          rw [e]
        · show _ = [if decide (a = 1) = true then 1 else 0] ++ t
          by_cases h1 : a = 1
          · subst h1; rfl
          · have h0 : a = 0 := by omega
            subst h0; rfl
      | [], hl => simp at hl
/-- Where the strict reading fails, no encoding of what the program reads lies there. -/
theorem strict_none (ty : Nat) (hty : 1 ≤ ty ∧ ty ≤ 3) (p : List Nat) (h : strictP ty p = none) (t : List Nat) : p ≠ encV (laxP ty p).1 ++ t := by
  unfold strictP at h
  obtain rfl | rfl | rfl : ty = 1 ∨ ty = 2 ∨ ty = 3 := by omega
  · rw [if_pos rfl] at h
    split at h
    · rename_i hl
      intro e
      have hlx : (laxP 1 p).1 = zeroV 1 false := by unfold laxP; rw [if_pos (by simpa using hl)]
      rw [hlx] at e
      have : p.length = 4 + t.length := by rw [e]; simp [encV, zeroV, b4]; omega
      omega
    · cases h
  · rw [if_neg (by omega), if_pos rfl] at h
    split at h
    · rename_i hl
      intro e
      have hlx : (laxP 2 p).1 = zeroV 2 false := by
        unfold laxP
        rw [if_pos]
        rw [if_neg (by omega)]
        split <;> omega
      rw [hlx] at e
      have e2 : p = 0 :: t := by rw [e]; rfl
      rw [e2] at hl
      simp at hl
    · cases h
  · rw [if_neg (by omega), if_neg (by omega)] at h
    split at h
    · rename_i hl
      intro e
      match p, hl, e with
      | [], _, e =>
        have hlx : (laxP 3 []).1 = zeroV 3 false := rfl
        rw [hlx] at e
        simp [encV, zeroV] at e
      | a :: s, hl, e =>
        simp at hl
        have hlx : (laxP 3 (a :: s)).1 = { zeroV 3 false with b := true } := by
          unfold laxP
          rw [if_neg (by simp), if_neg (by omega), if_neg (by omega)]
          simp
          omega
        rw [hlx] at e
        simp [encV, zeroV] at e
        omega
    · cases h

/-- The program's loop over the columns; the bits of the null values shifted by those behind. -/
def decGo (ver : Int) : List CV → Nat → List Nat → Option (List RV)
  | [], _, _ => some []
  | c :: cs, nb, p =>
    if ver < c.sc then some []
    else if nb % 2 = 1 then (if fitsP c.ty c.nl (zeroV c.ty true) ≠ 0 then none else (decGo ver cs (nb / 2) p).map (zeroV c.ty true :: ·))
    else if fitsP c.ty c.nl (laxP c.ty p).1 ≠ 0 then none else (decGo ver cs (nb / 2) (laxP c.ty p).2).map ((laxP c.ty p).1 :: ·)
/-- The reference's. -/
def refGo (ver : Int) : List CV → Nat → List Nat → Option (List RV × List Nat)
  | [], _, p => some ([], p)
  | c :: cs, nb, p =>
    if ver < c.sc then (if nb % 2 = 1 then none else (refGo ver cs (nb / 2) p).map fun x => (c.df :: x.1, x.2))
    else if nb % 2 = 1 then (if fitsP c.ty c.nl (zeroV c.ty true) ≠ 0 then none else (refGo ver cs (nb / 2) p).map fun x => (zeroV c.ty true :: x.1, x.2))
    else match strictP c.ty p with
      | none => none
      | some (x, r) => if fitsP c.ty c.nl x ≠ 0 then none else (refGo ver cs (nb / 2) r).map fun y => (x :: y.1, y.2)
/-- Since a version, columns only come later. -/
def Asc (ver : Int) : List CV → Prop
  | [] => True
  | c :: cs => (ver < c.sc → ∀ d ∈ cs, ver < d.sc) ∧ Asc ver cs
theorem refGo_later (ver : Int) : ∀ (cs : List CV) (nb : Nat) (p : List Nat), (∀ c ∈ cs, ver < c.sc) → refGo ver cs nb p = if nb % 2 ^ cs.length = 0 then some (cs.map CV.df, p) else none
  | [], nb, p, _ => by simp [refGo, Nat.mod_one]
  | c :: cs, nb, p, h => by
    unfold refGo
    rw [if_pos (h c (by simp)), refGo_later ver cs (nb / 2) p (fun d hd => h d (by simp [hd])), List.length_cons, Nat.pow_succ]
    have e : nb % (2 ^ cs.length * 2) = nb % 2 + 2 * (nb / 2 % 2 ^ cs.length) := by rw [Nat.mul_comm, Nat.mod_mul]
    by_cases h1 : nb % 2 = 1
    · rw [if_pos h1, if_neg (by omega)]
    · rw [if_neg h1]
      by_cases h2 : nb / 2 % 2 ^ cs.length = 0
      · rw [if_pos h2, if_pos (by omega)]; rfl
      · rw [if_neg h2, if_neg (by omega)]; rfl
/-- What the program accepts, and the reference. -/
def progOk (ver : Int) (cs : List CV) (nb : Nat) (p : List Nat) : Option (List RV) :=
  match decGo ver cs nb p with
  | none => none
  | some r => if p = encR r ∧ nb = nulls r then some (r ++ (cs.drop r.length).map CV.df) else none
def refOk (ver : Int) (cs : List CV) (nb : Nat) (p : List Nat) : Option (List RV) :=
  match refGo ver cs nb p with
  | none => none
  | some (r, t) => if t = [] ∧ nb / 2 ^ cs.length = 0 then some r else none
theorem prog_ref (ver : Int) : ∀ (cs : List CV) (nb : Nat) (p : List Nat), (∀ c ∈ cs, 1 ≤ c.ty ∧ c.ty ≤ 3) → Asc ver cs → (∀ x ∈ p, x < 256) → progOk ver cs nb p = refOk ver cs nb p
  | [], nb, p, _, _, _ => by
    simp only [progOk, refOk, decGo, refGo, encR, nulls, List.flatMap_nil, List.length_nil, Nat.pow_zero, Nat.div_one, List.drop_nil, List.map_nil, List.append_nil]
  | c :: cs, nb, p, ht, ha, hp => by
    obtain ⟨ha1, ha2⟩ := ha
    have htc := ht c (by simp)
    have ih := fun nb p hp => prog_ref ver cs nb p (fun d hd => ht d (by simp [hd])) ha2 hp
    by_cases hv : ver < c.sc
    · have hl : ∀ d ∈ c :: cs, ver < d.sc := by
        intro d hd
        rcases List.mem_cons.1 hd with rfl | hd
        · exact hv
        · exact ha1 hv d hd
      unfold progOk refOk
      rw [refGo_later ver (c :: cs) nb p hl]
      unfold decGo
      rw [if_pos hv]
      simp only [encR, nulls, List.flatMap_nil, List.length_nil, List.drop_zero, List.nil_append]
      have hpow : 0 < 2 ^ (c :: cs).length := Nat.pow_pos (by omega)
      by_cases hnb : nb = 0
      · subst hnb
        simp
      · rw [if_neg (by omega)]
        by_cases hm : nb % 2 ^ (c :: cs).length = 0
        · rw [if_pos hm]
          simp only
          rw [if_neg]
          intro ⟨_, h2⟩
          have := Nat.div_add_mod nb (2 ^ (c :: cs).length)
          rw [h2, hm] at this
          omega
        · rw [if_neg hm]
    · have hdiv : nb / 2 ^ (c :: cs).length = nb / 2 / 2 ^ cs.length := by
        rw [List.length_cons, Nat.pow_succ, Nat.mul_comm, Nat.div_div_eq_div_mul]
      by_cases hb : nb % 2 = 1
      · have i1 := ih (nb / 2) p hp
        unfold progOk refOk at i1 ⊢
        unfold decGo refGo
        rw [if_neg hv, if_neg hv, if_pos hb, if_pos hb, hdiv]
        by_cases hf : fitsP c.ty c.nl (zeroV c.ty true) ≠ 0
        · rw [if_pos hf, if_pos hf]
        · rw [if_neg hf, if_neg hf]
          cases hd : decGo ver cs (nb / 2) p with
          | none =>
            rw [hd] at i1
            cases hr : refGo ver cs (nb / 2) p with
            | none => rfl
            | some x =>
              obtain ⟨r, t⟩ := x
              rw [hr] at i1
              simp only [Option.map_none, Option.map_some] at i1 ⊢
              split at i1
              · cases i1
              · rename_i hc; rw [if_neg hc]
          | some r =>
            rw [hd] at i1
            simp only [Option.map_some] at i1 ⊢
            have e1 : (p = encR (zeroV c.ty true :: r) ∧ nb = nulls (zeroV c.ty true :: r)) ↔ (p = encR r ∧ nb / 2 = nulls r) := by
              have e : encR (zeroV c.ty true :: r) = encR r := by simp [encR, encV, zeroV]
              rw [e, nulls_cons]
              simp only [zeroV, if_true]
              constructor
              · rintro ⟨h1, h2⟩; exact ⟨h1, by omega⟩
              · rintro ⟨h1, h2⟩; exact ⟨h1, by omega⟩
            cases hr : refGo ver cs (nb / 2) p with
            | none =>
              rw [hr] at i1
              simp only [Option.map_none] at i1 ⊢
              split at i1
              · cases i1
              · rename_i hc; rw [if_neg (by rw [e1]; exact hc)]
            | some x =>
              obtain ⟨q, t⟩ := x
              rw [hr] at i1
              simp only [Option.map_some] at i1 ⊢
              by_cases hc : p = encR r ∧ nb / 2 = nulls r
              · rw [if_pos hc] at i1
                rw [if_pos (e1.2 hc)]
                split at i1
                · rename_i h2
                  rw [if_pos h2]
                  cases i1
                  rfl
                · cases i1
              · rw [if_neg hc] at i1
                rw [if_neg (by rw [e1]; exact hc)]
                split at i1
                · cases i1
                · rename_i h2; rw [if_neg h2]
      · cases hs : strictP c.ty p with
        | none =>
          have hn := strict_none c.ty htc p hs
          unfold progOk refOk decGo refGo
          rw [if_neg hv, if_neg hv, if_neg hb, if_neg hb, hs]
          simp only
          split
          · rfl
          · rename_i r hr
            split at hr
            · cases hr
            · cases hd : decGo ver cs (nb / 2) (laxP c.ty p).2 with
              | none => rw [hd] at hr; cases hr
              | some r' =>
                rw [hd] at hr
                simp only [Option.map_some, Option.some.injEq] at hr
                subst hr
                rw [if_neg]
                rintro ⟨h1, _⟩
                exact hn (encR r') h1
        | some xr =>
          obtain ⟨x, t0⟩ := xr
          obtain ⟨hlax, hpx, hxn, ht0⟩ := strict_some c.ty htc p hp x t0 hs
          have i1 := ih (nb / 2) t0 ht0
          unfold progOk refOk at i1 ⊢
          unfold decGo refGo
          rw [if_neg hv, if_neg hv, if_neg hb, if_neg hb, hs, hlax, hdiv]
          simp only
          by_cases hf : fitsP c.ty c.nl x ≠ 0
          · rw [if_pos hf, if_pos hf]
          · rw [if_neg hf, if_neg hf]
            cases hd : decGo ver cs (nb / 2) t0 with
            | none =>
              rw [hd] at i1
              cases hr : refGo ver cs (nb / 2) t0 with
              | none => rfl
              | some y =>
                obtain ⟨r, t⟩ := y
                rw [hr] at i1
                simp only [Option.map_none, Option.map_some] at i1 ⊢
                split at i1
                · cases i1
                · rename_i hc; rw [if_neg hc]
            | some r =>
              rw [hd] at i1
              simp only [Option.map_some] at i1 ⊢
              have e1 : (p = encR (x :: r) ∧ nb = nulls (x :: r)) ↔ (t0 = encR r ∧ nb / 2 = nulls r) := by
                have e : encR (x :: r) = encV x ++ encR r := rfl
                rw [e, hpx, List.append_cancel_left_eq, nulls_cons, hxn]
                simp only [Bool.false_eq_true, if_false]
                constructor
                · rintro ⟨h1, h2⟩; exact ⟨h1, by omega⟩
                · rintro ⟨h1, h2⟩; exact ⟨h1, by omega⟩
              cases hr : refGo ver cs (nb / 2) t0 with
              | none =>
                rw [hr] at i1
                simp only [Option.map_none] at i1 ⊢
                split at i1
                · cases i1
                · rename_i hc; rw [if_neg (by rw [e1]; exact hc)]
              | some y =>
                obtain ⟨q, t⟩ := y
                rw [hr] at i1
                simp only [Option.map_some] at i1 ⊢
                by_cases hc : t0 = encR r ∧ nb / 2 = nulls r
                · rw [if_pos hc] at i1
                  rw [if_pos (e1.2 hc)]
                  split at i1
                  · rename_i h2
                    rw [if_pos h2]
                    cases i1
                    rfl
                  · cases i1
                · rw [if_neg hc] at i1
                  rw [if_neg (by rw [e1]; exact hc)]
                  split at i1
                  · cases i1
                  · rename_i h2; rw [if_neg h2]

/-! ### what was encoded is decoded as it was -/
def fitsGo : List CV → List RV → Nat
  | c :: cs, v :: r => if fitsP c.ty c.nl v ≠ 0 then fitsP c.ty c.nl v else fitsGo cs r
  | _, _ => 0
/-- The error number of a row for columns. -/
def rowP (cs : List CV) (r : List RV) : Nat := if cs.length ≠ r.length then 1 else fitsGo cs r
theorem empty_of {a : ByteArray} (h : a.data.toList = []) : a = ByteArray.empty := by
  obtain ⟨d⟩ := a
  have : d = #[] := by simpa using h
  subst this; rfl
theorem form_parts {v : RV} (h : formP v = 0) : (1 ≤ v.ty ∧ v.ty ≤ 3) ∧ (v.ty ≠ 1 ∨ v.nl = true → v.n = 0) ∧ (v.ty ≠ 2 ∨ v.nl = true → v.tx = ByteArray.empty) ∧ (v.ty ≠ 3 ∨ v.nl = true → v.b = false) ∧
    (-2147483648 ≤ v.n ∧ v.n < 2147483648) ∧ validD v.tx.data.toList = true ∧ v.tx.size ≤ 200 := by
  unfold formP at h
  split at h
  · cases h
  rename_i h1
  split at h
  · cases h
  rename_i h2
  split at h
  · cases h
  rename_i h3
  simp only [not_or, not_and, Bool.not_eq_true, Bool.not_eq_false] at h1 h2
  obtain ⟨a1, a2, a3, a4, a5⟩ := h1
  refine ⟨⟨by omega, by omega⟩, ?_, ?_, ?_, by omega, h2.2.2, by omega⟩
  · intro h
    apply Classical.byContradiction
    intro hn
    obtain ⟨b1, b2⟩ := a3 hn
    rcases h with h | h
    · exact b2 h
    · rw [b1] at h; cases h
  · intro h
    apply empty_of
    apply Classical.byContradiction
    intro hn
    obtain ⟨b1, b2⟩ := a4 hn
    rcases h with h | h
    · exact b2 h
    · rw [b1] at h; cases h
  · intro h
    apply Classical.byContradiction
    intro hn
    obtain ⟨b1, b2⟩ := a5 (by simpa using hn)
    rcases h with h | h
    · exact b2 h
    · rw [b1] at h; cases h
theorem strOf_nats (a : ByteArray) : strOfNats (natsOf a.data.toList) = a := by
  unfold strOfNats
  rw [bytes_nats]
theorem strict_enc (v : RV) (hv : formP v = 0) (hn : v.nl = false) (t : List Nat) : strictP v.ty (encV v ++ t) = some (v, t) := by
  obtain ⟨⟨h1, h2⟩, hN, hT, hB, hr, _, hsz⟩ := form_parts hv
  obtain ⟨ty, nl, n, tx, b⟩ := v
  simp only at h1 h2 hN hT hB hr hsz hn ⊢
  subst hn
  obtain rfl | rfl | rfl : ty = 1 ∨ ty = 2 ∨ ty = 3 := by omega
  · rw [hT (.inl (by omega)), hB (.inl (by omega))]
    show (if 1 = 1 then (if (b4 n ++ t).length < 4 then none else _) else _) = _
    have e0 : encV ⟨1, false, n, ByteArray.empty, false⟩ = b4 n := rfl
    rw [if_pos rfl, if_neg (by simp [b4]), e0]
    simp only [b4, List.cons_append, List.nil_append, List.getD_cons_zero, List.getD_cons_succ, List.drop_succ_cons, List.drop_zero]
    rw [i32_b4 n hr.1 hr.2]
    rfl
  · rw [hN (.inl (by omega)), hB (.inl (by omega))]
    have e : encV ⟨2, false, 0, tx, false⟩ = tx.size :: natsOf tx.data.toList := by
      show (tx.size % 256) :: _ = _
      rw [Nat.mod_eq_of_lt (by omega)]
    rw [e]
    have hl : (natsOf tx.data.toList).length = tx.size := by unfold natsOf; rw [List.length_map, Array.length_toList]; rfl
    unfold strictP
    rw [if_neg (by omega), if_pos rfl]
    simp only [List.cons_append, List.getD_cons_zero, List.length_cons, List.length_append]
    rw [if_neg (by omega), Nat.add_comm 1 tx.size]
    simp only [List.take_succ_cons, List.drop_succ_cons, List.drop_zero]
    rw [List.take_left' hl, List.drop_left' hl, strOf_nats]
    rfl
  · rw [hN (.inl (by omega)), hT (.inl (by omega))]
    unfold strictP
    rw [if_neg (by omega), if_neg (by omega)]
    cases b
    · rfl
    · rfl
theorem refGo_enc (ver : Int) (more : List CV) (hm : ∀ c ∈ more, ver < c.sc) : ∀ (cs : List CV) (r : List RV) (t : List Nat), cs.length = r.length → fitsGo cs r = 0 → (∀ c ∈ cs, ¬ ver < c.sc) →
    refGo ver (cs ++ more) (nulls r) (encR r ++ t) = some (r ++ more.map CV.df, t)
  | [], [], t, _, _, _ => by
    rw [List.nil_append, refGo_later ver more _ _ hm]
    simp [nulls, encR]
  | c :: cs, v :: r, t, hl, hf, hc => by
    unfold fitsGo at hf
    split at hf
    · rename_i h; exact absurd hf h
    rename_i hfv
    have ih := refGo_enc ver more hm cs r
    have hfv0 : fitsP c.ty c.nl v = 0 := by omega
    have hty : v.ty = c.ty ∧ formP v = 0 := by
      unfold fitsP at hfv0
      split at hfv0
      · cases hfv0
      · rename_i h; exact ⟨by omega, hfv0⟩
    rw [List.cons_append]
    unfold refGo
    rw [if_neg (hc c (by simp))]
    have e1 : nulls (v :: r) / 2 = nulls r := by rw [nulls_cons]; split <;> omega
    have hl2 : cs.length = r.length := by simpa using hl
    cases hn : v.nl with
    | true =>
      have e2 : nulls (v :: r) % 2 = 1 := by rw [nulls_cons, hn, if_pos rfl]; omega
      obtain ⟨_, hN, hT, hB, _⟩ := form_parts hty.2
      have ev : zeroV c.ty true = v := by
        obtain ⟨ty, nl, n, tx, b⟩ := v
        simp only at hn hN hT hB hty
        subst hn
        rw [hN (.inr rfl), hT (.inr rfl), hB (.inr rfl), hty.1]; rfl
      have ee : encR (v :: r) = encR r := by show encV v ++ encR r = _; unfold encV; rw [hn, if_pos rfl]; rfl
      rw [if_pos e2, ev, if_neg hfv, e1, ee, ih t hl2 hf (fun d hd => hc d (by simp [hd]))]
      rfl
    | false =>
      have e2 : ¬ nulls (v :: r) % 2 = 1 := by rw [nulls_cons, hn]; simp
      have ee : encR (v :: r) ++ t = encV v ++ (encR r ++ t) := by show (encV v ++ encR r) ++ t = _; rw [List.append_assoc]
      rw [if_neg e2, ee, ← hty.1, strict_enc v hty.2 hn]
      simp only
      rw [hty.1, if_neg hfv, e1, ih t hl2 hf (fun d hd => hc d (by simp [hd]))]
      rfl
  | [], _ :: _, _, hl, _, _ => by simp at hl
  | _ :: _, [], _, hl, _, _ => by simp at hl
theorem refOk_enc (ver : Int) (cs more : List CV) (r : List RV) (hm : ∀ c ∈ more, ver < c.sc) (hl : cs.length = r.length) (hf : fitsGo cs r = 0) (hc : ∀ c ∈ cs, ¬ ver < c.sc) :
    refOk ver (cs ++ more) (nulls r) (encR r) = some (r ++ more.map CV.df) := by
  have h := refGo_enc ver more hm cs r [] hl hf hc
  rw [List.append_nil] at h
  unfold refOk
  rw [h]
  have h0 : nulls r < 2 ^ (cs.length + more.length) := Nat.lt_of_lt_of_le (nulls_lt r) (Nat.pow_le_pow_right (by omega) (by omega))
  simp [h0]
end Go.Proofs.YtpjbcadelmjmfaaGreatDoor
