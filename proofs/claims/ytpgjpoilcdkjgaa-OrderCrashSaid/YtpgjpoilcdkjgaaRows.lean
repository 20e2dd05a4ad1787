/-
  No cell of these rows narrows 'for every input' (looked for: loops, veiled, ifaces, maps, wideKeys, modest, calm, conditions, laid).
  DERIVED. THE GIVEN ROWS OF THIS SEAT. 9 by the template 'for every input the law returns true; each argument reads behind the call as it read before'; 0 by the template 'total and deterministic' (their statements: YtpgjpoilcdkjgaaTotals.lean).
  GIVEN WITH THE SEED: the statements are not yours to turn. If you find one false, say at which input.
  Laid BY PROGRAM, IN A SANDBOX (cutbox-rows.mjs): the forced cells as the released guide's own fill.sh prints them over the translation f5018cacb2bb1da3… (all of the seat's roots in one cut). By AI agents, Wed Nov 11 2026. No macro, syntax, notation, axiom, sorry.
-/
import Derived.Test.YtpgjpoilcdkjgaaChecked
import GoSem.Claim
import GoSem.ClaimJoined
import GoSem.ClaimMapViews
import Derived.JoinedTies
import Derived.KernelRfl
namespace Go.Proofs.Ytpgjpoilcdkjgaa
/- THE CELL 'sum', in the pinned program and in every row, IS THE sha256 OF THE DUMP (.gsa) THAT YtpgjpoilcdkjgaaProg.lean LOADS. Nothing in Lean hashes anything: it is a label: what it is worth is what the hold of that sum in a sandbox is worth. -/
noncomputable def Try.pinned : Pinned := { name := "ytpgjpoilcdkjgaa", sum := "f5018cacb2bb1da3814ef096b865457ff8457c5ac72f5a3a5211aa4b696df5ec", checked := Try.checked }
namespace Rows
def none {H : Type} : Left H := { results := [], args := [] }

/-- 'bedrocklaw07.OrderMandatory': WHATEVER THE INPUT: true; the input reads as it did. -/
def orderMandatorySpec : ChangeSpec := { name := "orderMandatory", fn := fun _ => fun
  | [d] => { results := [.lit (.bool true)], args := [d] }
  | _ => none }
def orderMandatoryRow : OpenClaim := { program := "ytpgjpoilcdkjgaa", sum := "f5018cacb2bb1da3814ef096b865457ff8457c5ac72f5a3a5211aa4b696df5ec", func := "bedrock/bedrocklaw07.OrderMandatory", spec := "orderMandatory", apart := false }
def OrderMandatorySaid : Prop := orderMandatoryRow.holds Try.pinned (OpenSpec.ofChange orderMandatorySpec)

/-- ITS FALSE NEIGHBOUR: 'it returns false'. Refute it at one input. -/
def orderMandatoryWrong : ChangeSpec := { name := "orderMandatory", fn := fun _ => fun
  | [d] => { results := [.lit (.bool false)], args := [d] }
  | _ => none }
def OrderMandatoryWrongFalsely : Prop := orderMandatoryRow.holds Try.pinned (OpenSpec.ofChange orderMandatoryWrong)

/-- 'bedrocklaw07.OrderBefore': WHATEVER THE INPUT: true; the input reads as it did. -/
def orderBeforeSpec : ChangeSpec := { name := "orderBefore", fn := fun _ => fun
  | [d1, d2, d3] => { results := [.lit (.bool true)], args := [d1, d2, d3] }
  | _ => none }
def orderBeforeRow : OpenClaim := { program := "ytpgjpoilcdkjgaa", sum := "f5018cacb2bb1da3814ef096b865457ff8457c5ac72f5a3a5211aa4b696df5ec", func := "bedrock/bedrocklaw07.OrderBefore", spec := "orderBefore", apart := false }
def OrderBeforeSaid : Prop := orderBeforeRow.holds Try.pinned (OpenSpec.ofChange orderBeforeSpec)

/-- ITS FALSE NEIGHBOUR: 'it returns false'. Refute it at one input. -/
def orderBeforeWrong : ChangeSpec := { name := "orderBefore", fn := fun _ => fun
  | [d1, d2, d3] => { results := [.lit (.bool false)], args := [d1, d2, d3] }
  | _ => none }
def OrderBeforeWrongFalsely : Prop := orderBeforeRow.holds Try.pinned (OpenSpec.ofChange orderBeforeWrong)

/-- 'bedrocklaw07.OrderImages': WHATEVER THE INPUT: true; the input reads as it did. -/
def orderImagesSpec : ChangeSpec := { name := "orderImages", fn := fun _ => fun
  | [d1, d2, d3] => { results := [.lit (.bool true)], args := [d1, d2, d3] }
  | _ => none }
def orderImagesRow : OpenClaim := { program := "ytpgjpoilcdkjgaa", sum := "f5018cacb2bb1da3814ef096b865457ff8457c5ac72f5a3a5211aa4b696df5ec", func := "bedrock/bedrocklaw07.OrderImages", spec := "orderImages", apart := false }
def OrderImagesSaid : Prop := orderImagesRow.holds Try.pinned (OpenSpec.ofChange orderImagesSpec)

/-- ITS FALSE NEIGHBOUR: 'it returns false'. Refute it at one input. -/
def orderImagesWrong : ChangeSpec := { name := "orderImages", fn := fun _ => fun
  | [d1, d2, d3] => { results := [.lit (.bool false)], args := [d1, d2, d3] }
  | _ => none }
def OrderImagesWrongFalsely : Prop := orderImagesRow.holds Try.pinned (OpenSpec.ofChange orderImagesWrong)

/-- 'bedrocklaw07.OrderClosed': WHATEVER THE INPUT: true; the input reads as it did. -/
def orderClosedSpec : ChangeSpec := { name := "orderClosed", fn := fun _ => fun
  | [d1, d2, d3] => { results := [.lit (.bool true)], args := [d1, d2, d3] }
  | _ => none }
def orderClosedRow : OpenClaim := { program := "ytpgjpoilcdkjgaa", sum := "f5018cacb2bb1da3814ef096b865457ff8457c5ac72f5a3a5211aa4b696df5ec", func := "bedrock/bedrocklaw07.OrderClosed", spec := "orderClosed", apart := false }
def OrderClosedSaid : Prop := orderClosedRow.holds Try.pinned (OpenSpec.ofChange orderClosedSpec)

/-- ITS FALSE NEIGHBOUR: 'it returns false'. Refute it at one input. -/
def orderClosedWrong : ChangeSpec := { name := "orderClosed", fn := fun _ => fun
  | [d1, d2, d3] => { results := [.lit (.bool false)], args := [d1, d2, d3] }
  | _ => none }
def OrderClosedWrongFalsely : Prop := orderClosedRow.holds Try.pinned (OpenSpec.ofChange orderClosedWrong)

/-- 'bedrocklaw07.OrderStores': WHATEVER THE INPUT: true; the input reads as it did. -/
def orderStoresSpec : ChangeSpec := { name := "orderStores", fn := fun _ => fun
  | [d] => { results := [.lit (.bool true)], args := [d] }
  | _ => none }
def orderStoresRow : OpenClaim := { program := "ytpgjpoilcdkjgaa", sum := "f5018cacb2bb1da3814ef096b865457ff8457c5ac72f5a3a5211aa4b696df5ec", func := "bedrock/bedrocklaw07.OrderStores", spec := "orderStores", apart := false }
def OrderStoresSaid : Prop := orderStoresRow.holds Try.pinned (OpenSpec.ofChange orderStoresSpec)

/-- ITS FALSE NEIGHBOUR: 'it returns false'. Refute it at one input. -/
def orderStoresWrong : ChangeSpec := { name := "orderStores", fn := fun _ => fun
  | [d] => { results := [.lit (.bool false)], args := [d] }
  | _ => none }
def OrderStoresWrongFalsely : Prop := orderStoresRow.holds Try.pinned (OpenSpec.ofChange orderStoresWrong)

/-- 'bedrocklaw07.OrderRefuses': WHATEVER THE INPUT: true; the input reads as it did. -/
def orderRefusesSpec : ChangeSpec := { name := "orderRefuses", fn := fun _ => fun
  | [d1, d2] => { results := [.lit (.bool true)], args := [d1, d2] }
  | _ => none }
def orderRefusesRow : OpenClaim := { program := "ytpgjpoilcdkjgaa", sum := "f5018cacb2bb1da3814ef096b865457ff8457c5ac72f5a3a5211aa4b696df5ec", func := "bedrock/bedrocklaw07.OrderRefuses", spec := "orderRefuses", apart := false }
def OrderRefusesSaid : Prop := orderRefusesRow.holds Try.pinned (OpenSpec.ofChange orderRefusesSpec)

/-- ITS FALSE NEIGHBOUR: 'it returns false'. Refute it at one input. -/
def orderRefusesWrong : ChangeSpec := { name := "orderRefuses", fn := fun _ => fun
  | [d1, d2] => { results := [.lit (.bool false)], args := [d1, d2] }
  | _ => none }
def OrderRefusesWrongFalsely : Prop := orderRefusesRow.holds Try.pinned (OpenSpec.ofChange orderRefusesWrong)

/-- 'bedrocklaw07.OrderGrows': WHATEVER THE INPUT: true; the input reads as it did. -/
def orderGrowsSpec : ChangeSpec := { name := "orderGrows", fn := fun _ => fun
  | [d1, d2] => { results := [.lit (.bool true)], args := [d1, d2] }
  | _ => none }
def orderGrowsRow : OpenClaim := { program := "ytpgjpoilcdkjgaa", sum := "f5018cacb2bb1da3814ef096b865457ff8457c5ac72f5a3a5211aa4b696df5ec", func := "bedrock/bedrocklaw07.OrderGrows", spec := "orderGrows", apart := false }
def OrderGrowsSaid : Prop := orderGrowsRow.holds Try.pinned (OpenSpec.ofChange orderGrowsSpec)

/-- ITS FALSE NEIGHBOUR: 'it returns false'. Refute it at one input. -/
def orderGrowsWrong : ChangeSpec := { name := "orderGrows", fn := fun _ => fun
  | [d1, d2] => { results := [.lit (.bool false)], args := [d1, d2] }
  | _ => none }
def OrderGrowsWrongFalsely : Prop := orderGrowsRow.holds Try.pinned (OpenSpec.ofChange orderGrowsWrong)

/-- 'bedrocklaw07.OrderCuts': WHATEVER THE INPUT: true; the input reads as it did. -/
def orderCutsSpec : ChangeSpec := { name := "orderCuts", fn := fun _ => fun
  | [d1, d2, d3] => { results := [.lit (.bool true)], args := [d1, d2, d3] }
  | _ => none }
def orderCutsRow : OpenClaim := { program := "ytpgjpoilcdkjgaa", sum := "f5018cacb2bb1da3814ef096b865457ff8457c5ac72f5a3a5211aa4b696df5ec", func := "bedrock/bedrocklaw07.OrderCuts", spec := "orderCuts", unfollowed := true, recurses := true, apart := false }
def OrderCutsSaid : Prop := orderCutsRow.holds Try.pinned (OpenSpec.ofChange orderCutsSpec)

/-- ITS FALSE NEIGHBOUR: 'it returns false'. Refute it at one input. -/
def orderCutsWrong : ChangeSpec := { name := "orderCuts", fn := fun _ => fun
  | [d1, d2, d3] => { results := [.lit (.bool false)], args := [d1, d2, d3] }
  | _ => none }
def OrderCutsWrongFalsely : Prop := orderCutsRow.holds Try.pinned (OpenSpec.ofChange orderCutsWrong)

/-- 'bedrocklaw07.OrderCrash': WHATEVER THE INPUT: true; the input reads as it did. -/
def orderCrashSpec : ChangeSpec := { name := "orderCrash", fn := fun _ => fun
  | [d1, d2] => { results := [.lit (.bool true)], args := [d1, d2] }
  | _ => none }
def orderCrashRow : OpenClaim := { program := "ytpgjpoilcdkjgaa", sum := "f5018cacb2bb1da3814ef096b865457ff8457c5ac72f5a3a5211aa4b696df5ec", func := "bedrock/bedrocklaw07.OrderCrash", spec := "orderCrash", unfollowed := true, recurses := true, apart := false }
def OrderCrashSaid : Prop := orderCrashRow.holds Try.pinned (OpenSpec.ofChange orderCrashSpec)

/-- ITS FALSE NEIGHBOUR: 'it returns false'. Refute it at one input. -/
def orderCrashWrong : ChangeSpec := { name := "orderCrash", fn := fun _ => fun
  | [d1, d2] => { results := [.lit (.bool false)], args := [d1, d2] }
  | _ => none }
def OrderCrashWrongFalsely : Prop := orderCrashRow.holds Try.pinned (OpenSpec.ofChange orderCrashWrong)

/- THE SECOND FORM. 'bulk': how many values and letters a reading holds, each counted each time it is reached (what is shared counts as often as it is met; a slice's spare places count too). A statement '..UptoSaid' is the law's where the arguments, and the package variables that the reading takes, are together of bulk at most 1048576: NARROWER than '..Said'. Prove '..Said' where nothing that the law and all that it calls make is longer than what came in: it says more and counts as full. Else prove '..UptoSaid'. A law counts once. -/
mutual
def uptoBulk {H : Type} : DataW H → Nat
  | .lit (.string bytes) => bytes.length + 1
  | .lit _ => 1
  | .nil => 1
  | .ptr d => uptoBulk d + 1
  | .slice elems spare => uptoBulkAll elems + uptoBulkAll spare + 1
  | .agg parts => uptoBulkAll parts + 1
  | .iface _ d => uptoBulk d + 1
  | .map entries => uptoBulkEntries entries + 1
  | .held _ => 1
def uptoBulkAll {H : Type} : List (DataW H) → Nat
  | [] => 0
  | d :: r => uptoBulk d + uptoBulkAll r
def uptoBulkEntries {H : Type} : List (Lit × DataW H) → Nat
  | [] => 0
  | x :: r => uptoBulkEntry x + uptoBulkEntries r
def uptoBulkEntry {H : Type} : Lit × DataW H → Nat
  | (.string bytes, d) => bytes.length + uptoBulk d + 1
  | (_, d) => uptoBulk d + 1
 end
def uptoSmall : (H : Type) → List (DataW H) → Bool := fun _ ds => decide (uptoBulkAll ds ≤ 1048576)
def OpenSpec.upto (s : _root_.Go.ChangeSpec) : _root_.Go.OpenSpec := { _root_.Go.OpenSpec.ofChange s with cond := some uptoSmall }

/-- 'bedrocklaw07.OrderMandatory', WHERE WHAT IT READS IS OF BULK AT MOST 1048576: true; the input reads as it did. -/
def orderMandatoryUptoRow : OpenClaim := { program := "ytpgjpoilcdkjgaa", sum := "f5018cacb2bb1da3814ef096b865457ff8457c5ac72f5a3a5211aa4b696df5ec", func := "bedrock/bedrocklaw07.OrderMandatory", spec := "orderMandatory", apart := false, narrowed := true }
def OrderMandatoryUptoSaid : Prop := orderMandatoryUptoRow.holds Try.pinned (OpenSpec.upto orderMandatorySpec)

/-- 'bedrocklaw07.OrderBefore', WHERE WHAT IT READS IS OF BULK AT MOST 1048576: true; the input reads as it did. -/
def orderBeforeUptoRow : OpenClaim := { program := "ytpgjpoilcdkjgaa", sum := "f5018cacb2bb1da3814ef096b865457ff8457c5ac72f5a3a5211aa4b696df5ec", func := "bedrock/bedrocklaw07.OrderBefore", spec := "orderBefore", apart := false, narrowed := true }
def OrderBeforeUptoSaid : Prop := orderBeforeUptoRow.holds Try.pinned (OpenSpec.upto orderBeforeSpec)

/-- 'bedrocklaw07.OrderImages', WHERE WHAT IT READS IS OF BULK AT MOST 1048576: true; the input reads as it did. -/
def orderImagesUptoRow : OpenClaim := { program := "ytpgjpoilcdkjgaa", sum := "f5018cacb2bb1da3814ef096b865457ff8457c5ac72f5a3a5211aa4b696df5ec", func := "bedrock/bedrocklaw07.OrderImages", spec := "orderImages", apart := false, narrowed := true }
def OrderImagesUptoSaid : Prop := orderImagesUptoRow.holds Try.pinned (OpenSpec.upto orderImagesSpec)

/-- 'bedrocklaw07.OrderClosed', WHERE WHAT IT READS IS OF BULK AT MOST 1048576: true; the input reads as it did. -/
def orderClosedUptoRow : OpenClaim := { program := "ytpgjpoilcdkjgaa", sum := "f5018cacb2bb1da3814ef096b865457ff8457c5ac72f5a3a5211aa4b696df5ec", func := "bedrock/bedrocklaw07.OrderClosed", spec := "orderClosed", apart := false, narrowed := true }
def OrderClosedUptoSaid : Prop := orderClosedUptoRow.holds Try.pinned (OpenSpec.upto orderClosedSpec)

/-- 'bedrocklaw07.OrderStores', WHERE WHAT IT READS IS OF BULK AT MOST 1048576: true; the input reads as it did. -/
def orderStoresUptoRow : OpenClaim := { program := "ytpgjpoilcdkjgaa", sum := "f5018cacb2bb1da3814ef096b865457ff8457c5ac72f5a3a5211aa4b696df5ec", func := "bedrock/bedrocklaw07.OrderStores", spec := "orderStores", apart := false, narrowed := true }
def OrderStoresUptoSaid : Prop := orderStoresUptoRow.holds Try.pinned (OpenSpec.upto orderStoresSpec)

/-- 'bedrocklaw07.OrderRefuses', WHERE WHAT IT READS IS OF BULK AT MOST 1048576: true; the input reads as it did. -/
def orderRefusesUptoRow : OpenClaim := { program := "ytpgjpoilcdkjgaa", sum := "f5018cacb2bb1da3814ef096b865457ff8457c5ac72f5a3a5211aa4b696df5ec", func := "bedrock/bedrocklaw07.OrderRefuses", spec := "orderRefuses", apart := false, narrowed := true }
def OrderRefusesUptoSaid : Prop := orderRefusesUptoRow.holds Try.pinned (OpenSpec.upto orderRefusesSpec)

/-- 'bedrocklaw07.OrderGrows', WHERE WHAT IT READS IS OF BULK AT MOST 1048576: true; the input reads as it did. -/
def orderGrowsUptoRow : OpenClaim := { program := "ytpgjpoilcdkjgaa", sum := "f5018cacb2bb1da3814ef096b865457ff8457c5ac72f5a3a5211aa4b696df5ec", func := "bedrock/bedrocklaw07.OrderGrows", spec := "orderGrows", apart := false, narrowed := true }
def OrderGrowsUptoSaid : Prop := orderGrowsUptoRow.holds Try.pinned (OpenSpec.upto orderGrowsSpec)

/-- 'bedrocklaw07.OrderCuts', WHERE WHAT IT READS IS OF BULK AT MOST 1048576: true; the input reads as it did. -/
def orderCutsUptoRow : OpenClaim := { program := "ytpgjpoilcdkjgaa", sum := "f5018cacb2bb1da3814ef096b865457ff8457c5ac72f5a3a5211aa4b696df5ec", func := "bedrock/bedrocklaw07.OrderCuts", spec := "orderCuts", unfollowed := true, recurses := true, apart := false, narrowed := true }
def OrderCutsUptoSaid : Prop := orderCutsUptoRow.holds Try.pinned (OpenSpec.upto orderCutsSpec)

/-- 'bedrocklaw07.OrderCrash', WHERE WHAT IT READS IS OF BULK AT MOST 1048576: true; the input reads as it did. -/
def orderCrashUptoRow : OpenClaim := { program := "ytpgjpoilcdkjgaa", sum := "f5018cacb2bb1da3814ef096b865457ff8457c5ac72f5a3a5211aa4b696df5ec", func := "bedrock/bedrocklaw07.OrderCrash", spec := "orderCrash", unfollowed := true, recurses := true, apart := false, narrowed := true }
def OrderCrashUptoSaid : Prop := orderCrashUptoRow.holds Try.pinned (OpenSpec.upto orderCrashSpec)

end Rows
end Go.Proofs.Ytpgjpoilcdkjgaa
