/-
  No cell of these rows narrows 'for every input' (looked for: loops, veiled, ifaces, maps, wideKeys, modest, calm, conditions, laid).
  DERIVED. THE GIVEN ROWS OF THIS SEAT. 10 by the template 'for every input the law returns true; each argument reads behind the call as it read before'; 0 by the template 'total and deterministic' (their statements: YtikjpklbbjmioaaTotals.lean).
  GIVEN WITH THE SEED: the statements are not yours to turn. If you find one false, say at which input.
  Laid BY PROGRAM, IN A SANDBOX (cutbox-rows.mjs): the forced cells as the released guide's own fill.sh prints them over the translation 699271e51862479b… (all of the seat's roots in one cut). By AI agents, Wed Nov 11 2026. No macro, syntax, notation, axiom, sorry.
-/
import Derived.Test.YtikjpklbbjmioaaChecked
import GoSem.Claim
import GoSem.ClaimJoined
import GoSem.ClaimMapViews
import Derived.JoinedTies
import Derived.KernelRfl
namespace Go.Proofs.Ytikjpklbbjmioaa
/- THE CELL 'sum', in the pinned program and in every row, IS THE sha256 OF THE DUMP (.gsa) THAT YtikjpklbbjmioaaProg.lean LOADS. Nothing in Lean hashes anything: it is a label: what it is worth is what the hold of that sum in a sandbox is worth. -/
noncomputable def Try.pinned : Pinned := { name := "ytikjpklbbjmioaa", sum := "699271e51862479b2651532338aa105cb1ebdcc0f129168b7b0046421fec946b", checked := Try.checked }
namespace Rows
def none {H : Type} : Left H := { results := [], args := [] }

/-- 'bedrocklaw05.CrashsetLong': WHATEVER THE INPUT: true; the input reads as it did. -/
def crashsetLongSpec : ChangeSpec := { name := "crashsetLong", fn := fun _ => fun
  | [d1, d2] => { results := [.lit (.bool true)], args := [d1, d2] }
  | _ => none }
def crashsetLongRow : OpenClaim := { program := "ytikjpklbbjmioaa", sum := "699271e51862479b2651532338aa105cb1ebdcc0f129168b7b0046421fec946b", func := "bedrock/bedrocklaw05.CrashsetLong", spec := "crashsetLong", plainKeys := false, apart := false }
def CrashsetLongSaid : Prop := crashsetLongRow.holds Try.pinned (OpenSpec.ofChange crashsetLongSpec)

/-- ITS FALSE NEIGHBOUR: 'it returns false'. Refute it at one input. -/
def crashsetLongWrong : ChangeSpec := { name := "crashsetLong", fn := fun _ => fun
  | [d1, d2] => { results := [.lit (.bool false)], args := [d1, d2] }
  | _ => none }
def CrashsetLongWrongFalsely : Prop := crashsetLongRow.holds Try.pinned (OpenSpec.ofChange crashsetLongWrong)

/-- 'bedrocklaw05.CrashsetGreat': WHATEVER THE INPUT: true; the input reads as it did. -/
def crashsetGreatSpec : ChangeSpec := { name := "crashsetGreat", fn := fun _ => fun
  | [d1, d2, d3] => { results := [.lit (.bool true)], args := [d1, d2, d3] }
  | _ => none }
def crashsetGreatRow : OpenClaim := { program := "ytikjpklbbjmioaa", sum := "699271e51862479b2651532338aa105cb1ebdcc0f129168b7b0046421fec946b", func := "bedrock/bedrocklaw05.CrashsetGreat", spec := "crashsetGreat", plainKeys := false, apart := false }
def CrashsetGreatSaid : Prop := crashsetGreatRow.holds Try.pinned (OpenSpec.ofChange crashsetGreatSpec)

/-- ITS FALSE NEIGHBOUR: 'it returns false'. Refute it at one input. -/
def crashsetGreatWrong : ChangeSpec := { name := "crashsetGreat", fn := fun _ => fun
  | [d1, d2, d3] => { results := [.lit (.bool false)], args := [d1, d2, d3] }
  | _ => none }
def CrashsetGreatWrongFalsely : Prop := crashsetGreatRow.holds Try.pinned (OpenSpec.ofChange crashsetGreatWrong)

/-- 'bedrocklaw05.CrashsetCounts': WHATEVER THE INPUT: true; the input reads as it did. -/
def crashsetCountsSpec : ChangeSpec := { name := "crashsetCounts", fn := fun _ => fun
  | [d1, d2] => { results := [.lit (.bool true)], args := [d1, d2] }
  | _ => none }
def crashsetCountsRow : OpenClaim := { program := "ytikjpklbbjmioaa", sum := "699271e51862479b2651532338aa105cb1ebdcc0f129168b7b0046421fec946b", func := "bedrock/bedrocklaw05.CrashsetCounts", spec := "crashsetCounts", plainKeys := false, apart := false }
def CrashsetCountsSaid : Prop := crashsetCountsRow.holds Try.pinned (OpenSpec.ofChange crashsetCountsSpec)

/-- ITS FALSE NEIGHBOUR: 'it returns false'. Refute it at one input. -/
def crashsetCountsWrong : ChangeSpec := { name := "crashsetCounts", fn := fun _ => fun
  | [d1, d2] => { results := [.lit (.bool false)], args := [d1, d2] }
  | _ => none }
def CrashsetCountsWrongFalsely : Prop := crashsetCountsRow.holds Try.pinned (OpenSpec.ofChange crashsetCountsWrong)

/-- 'bedrocklaw05.CrashsetYields': WHATEVER THE INPUT: true; the input reads as it did. -/
def crashsetYieldsSpec : ChangeSpec := { name := "crashsetYields", fn := fun _ => fun
  | [d1, d2, d3] => { results := [.lit (.bool true)], args := [d1, d2, d3] }
  | _ => none }
def crashsetYieldsRow : OpenClaim := { program := "ytikjpklbbjmioaa", sum := "699271e51862479b2651532338aa105cb1ebdcc0f129168b7b0046421fec946b", func := "bedrock/bedrocklaw05.CrashsetYields", spec := "crashsetYields", unfollowed := true, recurses := true, plainKeys := false, apart := false }
def CrashsetYieldsSaid : Prop := crashsetYieldsRow.holds Try.pinned (OpenSpec.ofChange crashsetYieldsSpec)

/-- ITS FALSE NEIGHBOUR: 'it returns false'. Refute it at one input. -/
def crashsetYieldsWrong : ChangeSpec := { name := "crashsetYields", fn := fun _ => fun
  | [d1, d2, d3] => { results := [.lit (.bool false)], args := [d1, d2, d3] }
  | _ => none }
def CrashsetYieldsWrongFalsely : Prop := crashsetYieldsRow.holds Try.pinned (OpenSpec.ofChange crashsetYieldsWrong)

/-- 'bedrocklaw05.CrashsetChoices': WHATEVER THE INPUT: true; the input reads as it did. -/
def crashsetChoicesSpec : ChangeSpec := { name := "crashsetChoices", fn := fun _ => fun
  | [d1, d2] => { results := [.lit (.bool true)], args := [d1, d2] }
  | _ => none }
def crashsetChoicesRow : OpenClaim := { program := "ytikjpklbbjmioaa", sum := "699271e51862479b2651532338aa105cb1ebdcc0f129168b7b0046421fec946b", func := "bedrock/bedrocklaw05.CrashsetChoices", spec := "crashsetChoices", plainKeys := false, apart := false }
def CrashsetChoicesSaid : Prop := crashsetChoicesRow.holds Try.pinned (OpenSpec.ofChange crashsetChoicesSpec)

/-- ITS FALSE NEIGHBOUR: 'it returns false'. Refute it at one input. -/
def crashsetChoicesWrong : ChangeSpec := { name := "crashsetChoices", fn := fun _ => fun
  | [d1, d2] => { results := [.lit (.bool false)], args := [d1, d2] }
  | _ => none }
def CrashsetChoicesWrongFalsely : Prop := crashsetChoicesRow.holds Try.pinned (OpenSpec.ofChange crashsetChoicesWrong)

/-- 'bedrocklaw05.CrashsetNils': WHATEVER THE INPUT: true; the input reads as it did. -/
def crashsetNilsSpec : ChangeSpec := { name := "crashsetNils", fn := fun _ => fun
  | [d1, d2] => { results := [.lit (.bool true)], args := [d1, d2] }
  | _ => none }
def crashsetNilsRow : OpenClaim := { program := "ytikjpklbbjmioaa", sum := "699271e51862479b2651532338aa105cb1ebdcc0f129168b7b0046421fec946b", func := "bedrock/bedrocklaw05.CrashsetNils", spec := "crashsetNils", unfollowed := true, recurses := true, plainKeys := false, apart := false }
def CrashsetNilsSaid : Prop := crashsetNilsRow.holds Try.pinned (OpenSpec.ofChange crashsetNilsSpec)

/-- ITS FALSE NEIGHBOUR: 'it returns false'. Refute it at one input. -/
def crashsetNilsWrong : ChangeSpec := { name := "crashsetNils", fn := fun _ => fun
  | [d1, d2] => { results := [.lit (.bool false)], args := [d1, d2] }
  | _ => none }
def CrashsetNilsWrongFalsely : Prop := crashsetNilsRow.holds Try.pinned (OpenSpec.ofChange crashsetNilsWrong)

/-- 'bedrocklaw05.CrashsetDistinct': WHATEVER THE INPUT: true; the input reads as it did. -/
def crashsetDistinctSpec : ChangeSpec := { name := "crashsetDistinct", fn := fun _ => fun
  | [d1, d2] => { results := [.lit (.bool true)], args := [d1, d2] }
  | _ => none }
def crashsetDistinctRow : OpenClaim := { program := "ytikjpklbbjmioaa", sum := "699271e51862479b2651532338aa105cb1ebdcc0f129168b7b0046421fec946b", func := "bedrock/bedrocklaw05.CrashsetDistinct", spec := "crashsetDistinct", unfollowed := true, recurses := true, plainKeys := false, apart := false }
def CrashsetDistinctSaid : Prop := crashsetDistinctRow.holds Try.pinned (OpenSpec.ofChange crashsetDistinctSpec)

/-- ITS FALSE NEIGHBOUR: 'it returns false'. Refute it at one input. -/
def crashsetDistinctWrong : ChangeSpec := { name := "crashsetDistinct", fn := fun _ => fun
  | [d1, d2] => { results := [.lit (.bool false)], args := [d1, d2] }
  | _ => none }
def CrashsetDistinctWrongFalsely : Prop := crashsetDistinctRow.holds Try.pinned (OpenSpec.ofChange crashsetDistinctWrong)

/-- 'bedrocklaw05.CrashsetImages': WHATEVER THE INPUT: true; the input reads as it did. -/
def crashsetImagesSpec : ChangeSpec := { name := "crashsetImages", fn := fun _ => fun
  | [d1, d2] => { results := [.lit (.bool true)], args := [d1, d2] }
  | _ => none }
def crashsetImagesRow : OpenClaim := { program := "ytikjpklbbjmioaa", sum := "699271e51862479b2651532338aa105cb1ebdcc0f129168b7b0046421fec946b", func := "bedrock/bedrocklaw05.CrashsetImages", spec := "crashsetImages", plainKeys := false, apart := false }
def CrashsetImagesSaid : Prop := crashsetImagesRow.holds Try.pinned (OpenSpec.ofChange crashsetImagesSpec)

/-- ITS FALSE NEIGHBOUR: 'it returns false'. Refute it at one input. -/
def crashsetImagesWrong : ChangeSpec := { name := "crashsetImages", fn := fun _ => fun
  | [d1, d2] => { results := [.lit (.bool false)], args := [d1, d2] }
  | _ => none }
def CrashsetImagesWrongFalsely : Prop := crashsetImagesRow.holds Try.pinned (OpenSpec.ofChange crashsetImagesWrong)

/-- 'bedrocklaw05.CrashsetKnows': WHATEVER THE INPUT: true; the input reads as it did. -/
def crashsetKnowsSpec : ChangeSpec := { name := "crashsetKnows", fn := fun _ => fun
  | [d1, d2, d3] => { results := [.lit (.bool true)], args := [d1, d2, d3] }
  | _ => none }
def crashsetKnowsRow : OpenClaim := { program := "ytikjpklbbjmioaa", sum := "699271e51862479b2651532338aa105cb1ebdcc0f129168b7b0046421fec946b", func := "bedrock/bedrocklaw05.CrashsetKnows", spec := "crashsetKnows", plainKeys := false, apart := false }
def CrashsetKnowsSaid : Prop := crashsetKnowsRow.holds Try.pinned (OpenSpec.ofChange crashsetKnowsSpec)

/-- ITS FALSE NEIGHBOUR: 'it returns false'. Refute it at one input. -/
def crashsetKnowsWrong : ChangeSpec := { name := "crashsetKnows", fn := fun _ => fun
  | [d1, d2, d3] => { results := [.lit (.bool false)], args := [d1, d2, d3] }
  | _ => none }
def CrashsetKnowsWrongFalsely : Prop := crashsetKnowsRow.holds Try.pinned (OpenSpec.ofChange crashsetKnowsWrong)

/-- 'bedrocklaw05.CrashsetChanges': WHATEVER THE INPUT: true; the input reads as it did. -/
def crashsetChangesSpec : ChangeSpec := { name := "crashsetChanges", fn := fun _ => fun
  | [d1, d2, d3] => { results := [.lit (.bool true)], args := [d1, d2, d3] }
  | _ => none }
def crashsetChangesRow : OpenClaim := { program := "ytikjpklbbjmioaa", sum := "699271e51862479b2651532338aa105cb1ebdcc0f129168b7b0046421fec946b", func := "bedrock/bedrocklaw05.CrashsetChanges", spec := "crashsetChanges", inPlace := ["maps.clone"], unfollowed := true, recurses := true, plainKeys := false, apart := false }
def CrashsetChangesSaid : Prop := crashsetChangesRow.holds Try.pinned (OpenSpec.ofChange crashsetChangesSpec)

/-- ITS FALSE NEIGHBOUR: 'it returns false'. Refute it at one input. -/
def crashsetChangesWrong : ChangeSpec := { name := "crashsetChanges", fn := fun _ => fun
  | [d1, d2, d3] => { results := [.lit (.bool false)], args := [d1, d2, d3] }
  | _ => none }
def CrashsetChangesWrongFalsely : Prop := crashsetChangesRow.holds Try.pinned (OpenSpec.ofChange crashsetChangesWrong)

/- THE SECOND FORM. 'bulk': how many values and letters a reading holds, each counted each time it is reached (what is shared counts as often as it is met; a slice's spare places count too). A statement '..UptoSaid' is the law's where the arguments, and the package variables that the reading takes, are together of bulk at most 1048576: NARROWER than '..Said'. Prove '..Said' where nothing that the law and all that it calls make is longer than what came in: it says more and counts as full. Else prove '..UptoSaid'. A law counts once. -/
mutual
def uptoBulk {H : Type} : DataW H → Nat
  | .lit (.string bytes) => bytes.length + 1
  | .lit _ => 1
  | .nil => 1
  | .ptr d => uptoBulk d + 1
  | .slice elems spare => uptoBulkAll elems + uptoBulkAll spare + 1
  | .agg parts => uptoBulkAll parts + 1
  | .iface _ d => uptoBulk d + 1
  | .map entries => uptoBulkEntries entries + 1
  | .held _ => 1
def uptoBulkAll {H : Type} : List (DataW H) → Nat
  | [] => 0
  | d :: r => uptoBulk d + uptoBulkAll r
def uptoBulkEntries {H : Type} : List (Lit × DataW H) → Nat
  | [] => 0
  | x :: r => uptoBulkEntry x + uptoBulkEntries r
def uptoBulkEntry {H : Type} : Lit × DataW H → Nat
  | (.string bytes, d) => bytes.length + uptoBulk d + 1
  | (_, d) => uptoBulk d + 1
 end
def uptoSmall : (H : Type) → List (DataW H) → Bool := fun _ ds => decide (uptoBulkAll ds ≤ 1048576)
def OpenSpec.upto (s : _root_.Go.ChangeSpec) : _root_.Go.OpenSpec := { _root_.Go.OpenSpec.ofChange s with cond := some uptoSmall }

/-- 'bedrocklaw05.CrashsetLong', WHERE WHAT IT READS IS OF BULK AT MOST 1048576: true; the input reads as it did. -/
def crashsetLongUptoRow : OpenClaim := { program := "ytikjpklbbjmioaa", sum := "699271e51862479b2651532338aa105cb1ebdcc0f129168b7b0046421fec946b", func := "bedrock/bedrocklaw05.CrashsetLong", spec := "crashsetLong", plainKeys := false, apart := false, narrowed := true }
def CrashsetLongUptoSaid : Prop := crashsetLongUptoRow.holds Try.pinned (OpenSpec.upto crashsetLongSpec)

/-- 'bedrocklaw05.CrashsetGreat', WHERE WHAT IT READS IS OF BULK AT MOST 1048576: true; the input reads as it did. -/
def crashsetGreatUptoRow : OpenClaim := { program := "ytikjpklbbjmioaa", sum := "699271e51862479b2651532338aa105cb1ebdcc0f129168b7b0046421fec946b", func := "bedrock/bedrocklaw05.CrashsetGreat", spec := "crashsetGreat", plainKeys := false, apart := false, narrowed := true }
def CrashsetGreatUptoSaid : Prop := crashsetGreatUptoRow.holds Try.pinned (OpenSpec.upto crashsetGreatSpec)

/-- 'bedrocklaw05.CrashsetCounts', WHERE WHAT IT READS IS OF BULK AT MOST 1048576: true; the input reads as it did. -/
def crashsetCountsUptoRow : OpenClaim := { program := "ytikjpklbbjmioaa", sum := "699271e51862479b2651532338aa105cb1ebdcc0f129168b7b0046421fec946b", func := "bedrock/bedrocklaw05.CrashsetCounts", spec := "crashsetCounts", plainKeys := false, apart := false, narrowed := true }
def CrashsetCountsUptoSaid : Prop := crashsetCountsUptoRow.holds Try.pinned (OpenSpec.upto crashsetCountsSpec)

/-- 'bedrocklaw05.CrashsetYields', WHERE WHAT IT READS IS OF BULK AT MOST 1048576: true; the input reads as it did. -/
def crashsetYieldsUptoRow : OpenClaim := { program := "ytikjpklbbjmioaa", sum := "699271e51862479b2651532338aa105cb1ebdcc0f129168b7b0046421fec946b", func := "bedrock/bedrocklaw05.CrashsetYields", spec := "crashsetYields", unfollowed := true, recurses := true, plainKeys := false, apart := false, narrowed := true }
def CrashsetYieldsUptoSaid : Prop := crashsetYieldsUptoRow.holds Try.pinned (OpenSpec.upto crashsetYieldsSpec)

/-- 'bedrocklaw05.CrashsetChoices', WHERE WHAT IT READS IS OF BULK AT MOST 1048576: true; the input reads as it did. -/
def crashsetChoicesUptoRow : OpenClaim := { program := "ytikjpklbbjmioaa", sum := "699271e51862479b2651532338aa105cb1ebdcc0f129168b7b0046421fec946b", func := "bedrock/bedrocklaw05.CrashsetChoices", spec := "crashsetChoices", plainKeys := false, apart := false, narrowed := true }
def CrashsetChoicesUptoSaid : Prop := crashsetChoicesUptoRow.holds Try.pinned (OpenSpec.upto crashsetChoicesSpec)

/-- 'bedrocklaw05.CrashsetNils', WHERE WHAT IT READS IS OF BULK AT MOST 1048576: true; the input reads as it did. -/
def crashsetNilsUptoRow : OpenClaim := { program := "ytikjpklbbjmioaa", sum := "699271e51862479b2651532338aa105cb1ebdcc0f129168b7b0046421fec946b", func := "bedrock/bedrocklaw05.CrashsetNils", spec := "crashsetNils", unfollowed := true, recurses := true, plainKeys := false, apart := false, narrowed := true }
def CrashsetNilsUptoSaid : Prop := crashsetNilsUptoRow.holds Try.pinned (OpenSpec.upto crashsetNilsSpec)

/-- 'bedrocklaw05.CrashsetDistinct', WHERE WHAT IT READS IS OF BULK AT MOST 1048576: true; the input reads as it did. -/
def crashsetDistinctUptoRow : OpenClaim := { program := "ytikjpklbbjmioaa", sum := "699271e51862479b2651532338aa105cb1ebdcc0f129168b7b0046421fec946b", func := "bedrock/bedrocklaw05.CrashsetDistinct", spec := "crashsetDistinct", unfollowed := true, recurses := true, plainKeys := false, apart := false, narrowed := true }
def CrashsetDistinctUptoSaid : Prop := crashsetDistinctUptoRow.holds Try.pinned (OpenSpec.upto crashsetDistinctSpec)

/-- 'bedrocklaw05.CrashsetImages', WHERE WHAT IT READS IS OF BULK AT MOST 1048576: true; the input reads as it did. -/
def crashsetImagesUptoRow : OpenClaim := { program := "ytikjpklbbjmioaa", sum := "699271e51862479b2651532338aa105cb1ebdcc0f129168b7b0046421fec946b", func := "bedrock/bedrocklaw05.CrashsetImages", spec := "crashsetImages", plainKeys := false, apart := false, narrowed := true }
def CrashsetImagesUptoSaid : Prop := crashsetImagesUptoRow.holds Try.pinned (OpenSpec.upto crashsetImagesSpec)

/-- 'bedrocklaw05.CrashsetKnows', WHERE WHAT IT READS IS OF BULK AT MOST 1048576: true; the input reads as it did. -/
def crashsetKnowsUptoRow : OpenClaim := { program := "ytikjpklbbjmioaa", sum := "699271e51862479b2651532338aa105cb1ebdcc0f129168b7b0046421fec946b", func := "bedrock/bedrocklaw05.CrashsetKnows", spec := "crashsetKnows", plainKeys := false, apart := false, narrowed := true }
def CrashsetKnowsUptoSaid : Prop := crashsetKnowsUptoRow.holds Try.pinned (OpenSpec.upto crashsetKnowsSpec)

/-- 'bedrocklaw05.CrashsetChanges', WHERE WHAT IT READS IS OF BULK AT MOST 1048576: true; the input reads as it did. -/
def crashsetChangesUptoRow : OpenClaim := { program := "ytikjpklbbjmioaa", sum := "699271e51862479b2651532338aa105cb1ebdcc0f129168b7b0046421fec946b", func := "bedrock/bedrocklaw05.CrashsetChanges", spec := "crashsetChanges", inPlace := ["maps.clone"], unfollowed := true, recurses := true, plainKeys := false, apart := false, narrowed := true }
def CrashsetChangesUptoSaid : Prop := crashsetChangesUptoRow.holds Try.pinned (OpenSpec.upto crashsetChangesSpec)

end Rows
end Go.Proofs.Ytikjpklbbjmioaa
