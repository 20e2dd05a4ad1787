/- An event of the law as data, and what it does to the device. No program in sight. -/
import Derived.Test.YtjmdibgncaljaaaD11
import Derived.IntWalk
namespace Go.Proofs.Ytjmdibgncaljaaa.Dev
open Go.RowKit

structure Evt where
  kind : Int
  thr : Int
  off : Nat
  old : Nat
  val : Nat
  n : Int
def i64B (n : Int) : Prop := -9223372036854775808 ≤ n ∧ n ≤ 9223372036854775807
structure Evt.Fit (x : Evt) : Prop where
  k : i64B x.kind
  t : i64B x.thr
  o : x.off < 18446744073709551616
  d : x.old < 18446744073709551616
  v : x.val < 18446744073709551616
  n : i64B x.n
def Evt.t (x : Evt) : Nat := (x.thr % 8).toNat
/-- The offset as a signed number. -/
def Evt.io (x : Evt) : Int := wrap64 (x.off : Int)
theorem Evt.t_lt (x : Evt) : x.t < 8 := by unfold Evt.t; omega
theorem Evt.t_int (x : Evt) : ((x.t : Nat) : Int) = x.thr % 8 := by unfold Evt.t; omega
def doP (R : Dv) (x : Evt) : Dv :=
  if x.kind % 7 = 0 then mayP R x.t (R.isB x.off)
  else if x.kind % 7 = 1 then storeP R x.t x.off x.val
  else if x.kind % 7 = 2 then casP R x.t x.off x.old x.val
  else if x.kind % 7 = 3 then flushP R x.t x.off
  else if x.kind % 7 = 4 then fenceP R x.t
  else if x.kind % 7 = 5 then backP R x.io x.n
  else armP R x.n
def playP (R : Dv) (xs : List Evt) : Dv := xs.foldl doP R
theorem playP_snoc (R : Dv) (xs : List Evt) (x : Evt) : playP R (xs ++ [x]) = doP (playP R xs) x := by unfold playP; rw [List.foldl_append]; rfl
theorem playP_take (R : Dv) (xs : List Evt) (k : Nat) (d : Evt) (h : k < xs.length) : playP R (xs.take (k + 1)) = doP (playP R (xs.take k)) (xs.getD k d) := by
  rw [take_getD xs k d h, playP_snoc]
end Go.Proofs.Ytjmdibgncaljaaa.Dev
