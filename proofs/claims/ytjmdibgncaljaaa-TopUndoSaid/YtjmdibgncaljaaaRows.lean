/-
  No cell of these rows narrows 'for every input' (looked for: loops, veiled, ifaces, maps, wideKeys, modest, calm, conditions, laid).
  DERIVED. THE GIVEN ROWS OF THIS SEAT. 3 by the template 'for every input the law returns true; each argument reads behind the call as it read before'; 0 by the template 'total and deterministic' (their statements: YtjmdibgncaljaaaTotals.lean).
  GIVEN WITH THE SEED: the statements are not yours to turn. If you find one false, say at which input.
  Laid BY PROGRAM, IN A SANDBOX (cutbox-rows.mjs): the forced cells as the released guide's own fill.sh prints them over the translation 6aa0489c3bf9970d… (all of the seat's roots in one cut). By AI agents, Wed Nov 11 2026. No macro, syntax, notation, axiom, sorry.
-/
import Derived.Test.YtjmdibgncaljaaaChecked
import GoSem.Claim
import GoSem.ClaimJoined
import GoSem.ClaimMapViews
import Derived.JoinedTies
import Derived.KernelRfl
namespace Go.Proofs.Ytjmdibgncaljaaa
/- THE CELL 'sum', in the pinned program and in every row, IS THE sha256 OF THE DUMP (.gsa) THAT YtjmdibgncaljaaaProg.lean LOADS. Nothing in Lean hashes anything: it is a label: what it is worth is what the hold of that sum in a sandbox is worth. -/
noncomputable def Try.pinned : Pinned := { name := "ytjmdibgncaljaaa", sum := "6aa0489c3bf9970d7f62e794b4922cd84280f984baad6a3464048cbd95839050", checked := Try.checked }
namespace Rows
def none {H : Type} : Left H := { results := [], args := [] }

/-- 'bedrocktop.TopOrder': WHATEVER THE INPUT: true; the input reads as it did. -/
def topOrderSpec : ChangeSpec := { name := "topOrder", fn := fun _ => fun
  | [d] => { results := [.lit (.bool true)], args := [d] }
  | _ => none }
def topOrderRow : OpenClaim := { program := "ytjmdibgncaljaaa", sum := "6aa0489c3bf9970d7f62e794b4922cd84280f984baad6a3464048cbd95839050", func := "bedrock/bedrocktop.TopOrder", spec := "topOrder", unfollowed := true, recurses := true, apart := false }
def TopOrderSaid : Prop := topOrderRow.holds Try.pinned (OpenSpec.ofChange topOrderSpec)

/-- ITS FALSE NEIGHBOUR: 'it returns false'. Refute it at one input. -/
def topOrderWrong : ChangeSpec := { name := "topOrder", fn := fun _ => fun
  | [d] => { results := [.lit (.bool false)], args := [d] }
  | _ => none }
def TopOrderWrongFalsely : Prop := topOrderRow.holds Try.pinned (OpenSpec.ofChange topOrderWrong)

/-- 'bedrocktop.TopUndo': WHATEVER THE INPUT: true; the input reads as it did. -/
def topUndoSpec : ChangeSpec := { name := "topUndo", fn := fun _ => fun
  | [d] => { results := [.lit (.bool true)], args := [d] }
  | _ => none }
def topUndoRow : OpenClaim := { program := "ytjmdibgncaljaaa", sum := "6aa0489c3bf9970d7f62e794b4922cd84280f984baad6a3464048cbd95839050", func := "bedrock/bedrocktop.TopUndo", spec := "topUndo", unfollowed := true, recurses := true, apart := false }
def TopUndoSaid : Prop := topUndoRow.holds Try.pinned (OpenSpec.ofChange topUndoSpec)

/-- ITS FALSE NEIGHBOUR: 'it returns false'. Refute it at one input. -/
def topUndoWrong : ChangeSpec := { name := "topUndo", fn := fun _ => fun
  | [d] => { results := [.lit (.bool false)], args := [d] }
  | _ => none }
def TopUndoWrongFalsely : Prop := topUndoRow.holds Try.pinned (OpenSpec.ofChange topUndoWrong)

/-- 'bedrocktop.TopPrograms': WHATEVER THE INPUT: true; the input reads as it did. -/
def topProgramsSpec : ChangeSpec := { name := "topPrograms", fn := fun _ => fun
  | [d1, d2, d3] => { results := [.lit (.bool true)], args := [d1, d2, d3] }
  | _ => none }
def topProgramsRow : OpenClaim := { program := "ytjmdibgncaljaaa", sum := "6aa0489c3bf9970d7f62e794b4922cd84280f984baad6a3464048cbd95839050", func := "bedrock/bedrocktop.TopPrograms", spec := "topPrograms", unfollowed := true, recurses := true, apart := false }
def TopProgramsSaid : Prop := topProgramsRow.holds Try.pinned (OpenSpec.ofChange topProgramsSpec)

/-- ITS FALSE NEIGHBOUR: 'it returns false'. Refute it at one input. -/
def topProgramsWrong : ChangeSpec := { name := "topPrograms", fn := fun _ => fun
  | [d1, d2, d3] => { results := [.lit (.bool false)], args := [d1, d2, d3] }
  | _ => none }
def TopProgramsWrongFalsely : Prop := topProgramsRow.holds Try.pinned (OpenSpec.ofChange topProgramsWrong)

/- THE SECOND FORM. 'bulk': how many values and letters a reading holds, each counted each time it is reached (what is shared counts as often as it is met; a slice's spare places count too). A statement '..UptoSaid' is the law's where the arguments, and the package variables that the reading takes, are together of bulk at most 1048576: NARROWER than '..Said'. Prove '..Said' where nothing that the law and all that it calls make is longer than what came in: it says more and counts as full. Else prove '..UptoSaid'. A law counts once. -/
mutual
def uptoBulk {H : Type} : DataW H → Nat
  | .lit (.string bytes) => bytes.length + 1
  | .lit _ => 1
  | .nil => 1
  | .ptr d => uptoBulk d + 1
  | .slice elems spare => uptoBulkAll elems + uptoBulkAll spare + 1
  | .agg parts => uptoBulkAll parts + 1
  | .iface _ d => uptoBulk d + 1
  | .map entries => uptoBulkEntries entries + 1
  | .held _ => 1
def uptoBulkAll {H : Type} : List (DataW H) → Nat
  | [] => 0
  | d :: r => uptoBulk d + uptoBulkAll r
def uptoBulkEntries {H : Type} : List (Lit × DataW H) → Nat
  | [] => 0
  | x :: r => uptoBulkEntry x + uptoBulkEntries r
def uptoBulkEntry {H : Type} : Lit × DataW H → Nat
  | (.string bytes, d) => bytes.length + uptoBulk d + 1
  | (_, d) => uptoBulk d + 1
 end
def uptoSmall : (H : Type) → List (DataW H) → Bool := fun _ ds => decide (uptoBulkAll ds ≤ 1048576)
def OpenSpec.upto (s : _root_.Go.ChangeSpec) : _root_.Go.OpenSpec := { _root_.Go.OpenSpec.ofChange s with cond := some uptoSmall }

/-- 'bedrocktop.TopOrder', WHERE WHAT IT READS IS OF BULK AT MOST 1048576: true; the input reads as it did. -/
def topOrderUptoRow : OpenClaim := { program := "ytjmdibgncaljaaa", sum := "6aa0489c3bf9970d7f62e794b4922cd84280f984baad6a3464048cbd95839050", func := "bedrock/bedrocktop.TopOrder", spec := "topOrder", unfollowed := true, recurses := true, apart := false, narrowed := true }
def TopOrderUptoSaid : Prop := topOrderUptoRow.holds Try.pinned (OpenSpec.upto topOrderSpec)

/-- 'bedrocktop.TopUndo', WHERE WHAT IT READS IS OF BULK AT MOST 1048576: true; the input reads as it did. -/
def topUndoUptoRow : OpenClaim := { program := "ytjmdibgncaljaaa", sum := "6aa0489c3bf9970d7f62e794b4922cd84280f984baad6a3464048cbd95839050", func := "bedrock/bedrocktop.TopUndo", spec := "topUndo", unfollowed := true, recurses := true, apart := false, narrowed := true }
def TopUndoUptoSaid : Prop := topUndoUptoRow.holds Try.pinned (OpenSpec.upto topUndoSpec)

/-- 'bedrocktop.TopPrograms', WHERE WHAT IT READS IS OF BULK AT MOST 1048576: true; the input reads as it did. -/
def topProgramsUptoRow : OpenClaim := { program := "ytjmdibgncaljaaa", sum := "6aa0489c3bf9970d7f62e794b4922cd84280f984baad6a3464048cbd95839050", func := "bedrock/bedrocktop.TopPrograms", spec := "topPrograms", unfollowed := true, recurses := true, apart := false, narrowed := true }
def TopProgramsUptoSaid : Prop := topProgramsUptoRow.holds Try.pinned (OpenSpec.upto topProgramsSpec)

end Rows
end Go.Proofs.Ytjmdibgncaljaaa
