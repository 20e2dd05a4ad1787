/-
  No cell of these rows narrows 'for every input' (looked for: loops, veiled, ifaces, maps, wideKeys, modest, calm, conditions, laid).
  DERIVED. THE GIVEN ROWS OF THIS SEAT. 9 by the template 'for every input the law returns true; each argument reads behind the call as it read before'; 0 by the template 'total and deterministic' (their statements: YtkmhanjddkplbaaTotals.lean).
  GIVEN WITH THE SEED: the statements are not yours to turn. If you find one false, say at which input.
  Laid BY PROGRAM, IN A SANDBOX (cutbox-rows.mjs): the forced cells as the released guide's own fill.sh prints them over the translation 303f78150a41a5ea… (all of the seat's roots in one cut). By AI agents, Wed Nov 11 2026. No macro, syntax, notation, axiom, sorry.
-/
import Derived.Test.YtkmhanjddkplbaaChecked
import GoSem.Claim
import GoSem.ClaimJoined
import GoSem.ClaimMapViews
import Derived.JoinedTies
import Derived.KernelRfl
namespace Go.Proofs.Ytkmhanjddkplbaa
/- THE CELL 'sum', in the pinned program and in every row, IS THE sha256 OF THE DUMP (.gsa) THAT YtkmhanjddkplbaaProg.lean LOADS. Nothing in Lean hashes anything: it is a label: what it is worth is what the hold of that sum in a sandbox is worth. -/
noncomputable def Try.pinned : Pinned := { name := "ytkmhanjddkplbaa", sum := "303f78150a41a5eaceb1c40def13b428dfba5fbda2c00bb7044809bdb5f5ba7c", checked := Try.checked }
namespace Rows
def none {H : Type} : Left H := { results := [], args := [] }

/-- 'bedrocklaw03.DeviceNews': WHATEVER THE INPUT: true; the input reads as it did. -/
def deviceNewsSpec : ChangeSpec := { name := "deviceNews", fn := fun _ => fun
  | [d1, d2] => { results := [.lit (.bool true)], args := [d1, d2] }
  | _ => none }
def deviceNewsRow : OpenClaim := { program := "ytkmhanjddkplbaa", sum := "303f78150a41a5eaceb1c40def13b428dfba5fbda2c00bb7044809bdb5f5ba7c", func := "bedrock/bedrocklaw03.DeviceNews", spec := "deviceNews", apart := false }
def DeviceNewsSaid : Prop := deviceNewsRow.holds Try.pinned (OpenSpec.ofChange deviceNewsSpec)

/-- ITS FALSE NEIGHBOUR: 'it returns false'. Refute it at one input. -/
def deviceNewsWrong : ChangeSpec := { name := "deviceNews", fn := fun _ => fun
  | [d1, d2] => { results := [.lit (.bool false)], args := [d1, d2] }
  | _ => none }
def DeviceNewsWrongFalsely : Prop := deviceNewsRow.holds Try.pinned (OpenSpec.ofChange deviceNewsWrong)

/-- 'bedrocklaw03.DeviceFails': WHATEVER THE INPUT: true; the input reads as it did. -/
def deviceFailsSpec : ChangeSpec := { name := "deviceFails", fn := fun _ => fun
  | [d1, d2, d3] => { results := [.lit (.bool true)], args := [d1, d2, d3] }
  | _ => none }
def deviceFailsRow : OpenClaim := { program := "ytkmhanjddkplbaa", sum := "303f78150a41a5eaceb1c40def13b428dfba5fbda2c00bb7044809bdb5f5ba7c", func := "bedrock/bedrocklaw03.DeviceFails", spec := "deviceFails", apart := false }
def DeviceFailsSaid : Prop := deviceFailsRow.holds Try.pinned (OpenSpec.ofChange deviceFailsSpec)

/-- ITS FALSE NEIGHBOUR: 'it returns false'. Refute it at one input. -/
def deviceFailsWrong : ChangeSpec := { name := "deviceFails", fn := fun _ => fun
  | [d1, d2, d3] => { results := [.lit (.bool false)], args := [d1, d2, d3] }
  | _ => none }
def DeviceFailsWrongFalsely : Prop := deviceFailsRow.holds Try.pinned (OpenSpec.ofChange deviceFailsWrong)

/-- 'bedrocklaw03.DevicePlays': WHATEVER THE INPUT: true; the input reads as it did. -/
def devicePlaysSpec : ChangeSpec := { name := "devicePlays", fn := fun _ => fun
  | [d] => { results := [.lit (.bool true)], args := [d] }
  | _ => none }
def devicePlaysRow : OpenClaim := { program := "ytkmhanjddkplbaa", sum := "303f78150a41a5eaceb1c40def13b428dfba5fbda2c00bb7044809bdb5f5ba7c", func := "bedrock/bedrocklaw03.DevicePlays", spec := "devicePlays", apart := false }
def DevicePlaysSaid : Prop := devicePlaysRow.holds Try.pinned (OpenSpec.ofChange devicePlaysSpec)

/-- ITS FALSE NEIGHBOUR: 'it returns false'. Refute it at one input. -/
def devicePlaysWrong : ChangeSpec := { name := "devicePlays", fn := fun _ => fun
  | [d] => { results := [.lit (.bool false)], args := [d] }
  | _ => none }
def DevicePlaysWrongFalsely : Prop := devicePlaysRow.holds Try.pinned (OpenSpec.ofChange devicePlaysWrong)

/-- 'bedrocklaw03.DevicePrefixes': WHATEVER THE INPUT: true; the input reads as it did. -/
def devicePrefixesSpec : ChangeSpec := { name := "devicePrefixes", fn := fun _ => fun
  | [d1, d2] => { results := [.lit (.bool true)], args := [d1, d2] }
  | _ => none }
def devicePrefixesRow : OpenClaim := { program := "ytkmhanjddkplbaa", sum := "303f78150a41a5eaceb1c40def13b428dfba5fbda2c00bb7044809bdb5f5ba7c", func := "bedrock/bedrocklaw03.DevicePrefixes", spec := "devicePrefixes", apart := false }
def DevicePrefixesSaid : Prop := devicePrefixesRow.holds Try.pinned (OpenSpec.ofChange devicePrefixesSpec)

/-- ITS FALSE NEIGHBOUR: 'it returns false'. Refute it at one input. -/
def devicePrefixesWrong : ChangeSpec := { name := "devicePrefixes", fn := fun _ => fun
  | [d1, d2] => { results := [.lit (.bool false)], args := [d1, d2] }
  | _ => none }
def DevicePrefixesWrongFalsely : Prop := devicePrefixesRow.holds Try.pinned (OpenSpec.ofChange devicePrefixesWrong)

/-- 'bedrocklaw03.DeviceFences': WHATEVER THE INPUT: true; the input reads as it did. -/
def deviceFencesSpec : ChangeSpec := { name := "deviceFences", fn := fun _ => fun
  | [d1, d2, d3] => { results := [.lit (.bool true)], args := [d1, d2, d3] }
  | _ => none }
def deviceFencesRow : OpenClaim := { program := "ytkmhanjddkplbaa", sum := "303f78150a41a5eaceb1c40def13b428dfba5fbda2c00bb7044809bdb5f5ba7c", func := "bedrock/bedrocklaw03.DeviceFences", spec := "deviceFences", apart := false }
def DeviceFencesSaid : Prop := deviceFencesRow.holds Try.pinned (OpenSpec.ofChange deviceFencesSpec)

/-- ITS FALSE NEIGHBOUR: 'it returns false'. Refute it at one input. -/
def deviceFencesWrong : ChangeSpec := { name := "deviceFences", fn := fun _ => fun
  | [d1, d2, d3] => { results := [.lit (.bool false)], args := [d1, d2, d3] }
  | _ => none }
def DeviceFencesWrongFalsely : Prop := deviceFencesRow.holds Try.pinned (OpenSpec.ofChange deviceFencesWrong)

/-- 'bedrocklaw03.DeviceKeeps': WHATEVER THE INPUT: true; the input reads as it did. -/
def deviceKeepsSpec : ChangeSpec := { name := "deviceKeeps", fn := fun _ => fun
  | [d1, d2] => { results := [.lit (.bool true)], args := [d1, d2] }
  | _ => none }
def deviceKeepsRow : OpenClaim := { program := "ytkmhanjddkplbaa", sum := "303f78150a41a5eaceb1c40def13b428dfba5fbda2c00bb7044809bdb5f5ba7c", func := "bedrock/bedrocklaw03.DeviceKeeps", spec := "deviceKeeps", apart := false }
def DeviceKeepsSaid : Prop := deviceKeepsRow.holds Try.pinned (OpenSpec.ofChange deviceKeepsSpec)

/-- ITS FALSE NEIGHBOUR: 'it returns false'. Refute it at one input. -/
def deviceKeepsWrong : ChangeSpec := { name := "deviceKeeps", fn := fun _ => fun
  | [d1, d2] => { results := [.lit (.bool false)], args := [d1, d2] }
  | _ => none }
def DeviceKeepsWrongFalsely : Prop := deviceKeepsRow.holds Try.pinned (OpenSpec.ofChange deviceKeepsWrong)

/-- 'bedrocklaw03.DeviceImages': WHATEVER THE INPUT: true; the input reads as it did. -/
def deviceImagesSpec : ChangeSpec := { name := "deviceImages", fn := fun _ => fun
  | [d1, d2] => { results := [.lit (.bool true)], args := [d1, d2] }
  | _ => none }
def deviceImagesRow : OpenClaim := { program := "ytkmhanjddkplbaa", sum := "303f78150a41a5eaceb1c40def13b428dfba5fbda2c00bb7044809bdb5f5ba7c", func := "bedrock/bedrocklaw03.DeviceImages", spec := "deviceImages", apart := false }
def DeviceImagesSaid : Prop := deviceImagesRow.holds Try.pinned (OpenSpec.ofChange deviceImagesSpec)

/-- ITS FALSE NEIGHBOUR: 'it returns false'. Refute it at one input. -/
def deviceImagesWrong : ChangeSpec := { name := "deviceImages", fn := fun _ => fun
  | [d1, d2] => { results := [.lit (.bool false)], args := [d1, d2] }
  | _ => none }
def DeviceImagesWrongFalsely : Prop := deviceImagesRow.holds Try.pinned (OpenSpec.ofChange deviceImagesWrong)

/-- 'bedrocklaw03.DeviceCopies': WHATEVER THE INPUT: true; the input reads as it did. -/
def deviceCopiesSpec : ChangeSpec := { name := "deviceCopies", fn := fun _ => fun
  | [d1, d2, d3] => { results := [.lit (.bool true)], args := [d1, d2, d3] }
  | _ => none }
def deviceCopiesRow : OpenClaim := { program := "ytkmhanjddkplbaa", sum := "303f78150a41a5eaceb1c40def13b428dfba5fbda2c00bb7044809bdb5f5ba7c", func := "bedrock/bedrocklaw03.DeviceCopies", spec := "deviceCopies", inPlace := ["maps.clone"], apart := false }
def DeviceCopiesSaid : Prop := deviceCopiesRow.holds Try.pinned (OpenSpec.ofChange deviceCopiesSpec)

/-- ITS FALSE NEIGHBOUR: 'it returns false'. Refute it at one input. -/
def deviceCopiesWrong : ChangeSpec := { name := "deviceCopies", fn := fun _ => fun
  | [d1, d2, d3] => { results := [.lit (.bool false)], args := [d1, d2, d3] }
  | _ => none }
def DeviceCopiesWrongFalsely : Prop := deviceCopiesRow.holds Try.pinned (OpenSpec.ofChange deviceCopiesWrong)

/-- 'bedrocklaw03.DeviceNils': WHATEVER THE INPUT: true; the input reads as it did. -/
def deviceNilsSpec : ChangeSpec := { name := "deviceNils", fn := fun _ => fun
  | [d1, d2] => { results := [.lit (.bool true)], args := [d1, d2] }
  | _ => none }
def deviceNilsRow : OpenClaim := { program := "ytkmhanjddkplbaa", sum := "303f78150a41a5eaceb1c40def13b428dfba5fbda2c00bb7044809bdb5f5ba7c", func := "bedrock/bedrocklaw03.DeviceNils", spec := "deviceNils", inPlace := ["maps.clone"], apart := false }
def DeviceNilsSaid : Prop := deviceNilsRow.holds Try.pinned (OpenSpec.ofChange deviceNilsSpec)

/-- ITS FALSE NEIGHBOUR: 'it returns false'. Refute it at one input. -/
def deviceNilsWrong : ChangeSpec := { name := "deviceNils", fn := fun _ => fun
  | [d1, d2] => { results := [.lit (.bool false)], args := [d1, d2] }
  | _ => none }
def DeviceNilsWrongFalsely : Prop := deviceNilsRow.holds Try.pinned (OpenSpec.ofChange deviceNilsWrong)

/- THE SECOND FORM. 'bulk': how many values and letters a reading holds, each counted each time it is reached (what is shared counts as often as it is met; a slice's spare places count too). A statement '..UptoSaid' is the law's where the arguments, and the package variables that the reading takes, are together of bulk at most 1048576: NARROWER than '..Said'. Prove '..Said' where nothing that the law and all that it calls make is longer than what came in: it says more and counts as full. Else prove '..UptoSaid'. A law counts once. -/
mutual
def uptoBulk {H : Type} : DataW H → Nat
  | .lit (.string bytes) => bytes.length + 1
  | .lit _ => 1
  | .nil => 1
  | .ptr d => uptoBulk d + 1
  | .slice elems spare => uptoBulkAll elems + uptoBulkAll spare + 1
  | .agg parts => uptoBulkAll parts + 1
  | .iface _ d => uptoBulk d + 1
  | .map entries => uptoBulkEntries entries + 1
  | .held _ => 1
def uptoBulkAll {H : Type} : List (DataW H) → Nat
  | [] => 0
  | d :: r => uptoBulk d + uptoBulkAll r
def uptoBulkEntries {H : Type} : List (Lit × DataW H) → Nat
  | [] => 0
  | x :: r => uptoBulkEntry x + uptoBulkEntries r
def uptoBulkEntry {H : Type} : Lit × DataW H → Nat
  | (.string bytes, d) => bytes.length + uptoBulk d + 1
  | (_, d) => uptoBulk d + 1
 end
def uptoSmall : (H : Type) → List (DataW H) → Bool := fun _ ds => decide (uptoBulkAll ds ≤ 1048576)
def OpenSpec.upto (s : _root_.Go.ChangeSpec) : _root_.Go.OpenSpec := { _root_.Go.OpenSpec.ofChange s with cond := some uptoSmall }

/-- 'bedrocklaw03.DeviceNews', WHERE WHAT IT READS IS OF BULK AT MOST 1048576: true; the input reads as it did. -/
def deviceNewsUptoRow : OpenClaim := { program := "ytkmhanjddkplbaa", sum := "303f78150a41a5eaceb1c40def13b428dfba5fbda2c00bb7044809bdb5f5ba7c", func := "bedrock/bedrocklaw03.DeviceNews", spec := "deviceNews", apart := false, narrowed := true }
def DeviceNewsUptoSaid : Prop := deviceNewsUptoRow.holds Try.pinned (OpenSpec.upto deviceNewsSpec)

/-- 'bedrocklaw03.DeviceFails', WHERE WHAT IT READS IS OF BULK AT MOST 1048576: true; the input reads as it did. -/
def deviceFailsUptoRow : OpenClaim := { program := "ytkmhanjddkplbaa", sum := "303f78150a41a5eaceb1c40def13b428dfba5fbda2c00bb7044809bdb5f5ba7c", func := "bedrock/bedrocklaw03.DeviceFails", spec := "deviceFails", apart := false, narrowed := true }
def DeviceFailsUptoSaid : Prop := deviceFailsUptoRow.holds Try.pinned (OpenSpec.upto deviceFailsSpec)

/-- 'bedrocklaw03.DevicePlays', WHERE WHAT IT READS IS OF BULK AT MOST 1048576: true; the input reads as it did. -/
def devicePlaysUptoRow : OpenClaim := { program := "ytkmhanjddkplbaa", sum := "303f78150a41a5eaceb1c40def13b428dfba5fbda2c00bb7044809bdb5f5ba7c", func := "bedrock/bedrocklaw03.DevicePlays", spec := "devicePlays", apart := false, narrowed := true }
def DevicePlaysUptoSaid : Prop := devicePlaysUptoRow.holds Try.pinned (OpenSpec.upto devicePlaysSpec)

/-- 'bedrocklaw03.DevicePrefixes', WHERE WHAT IT READS IS OF BULK AT MOST 1048576: true; the input reads as it did. -/
def devicePrefixesUptoRow : OpenClaim := { program := "ytkmhanjddkplbaa", sum := "303f78150a41a5eaceb1c40def13b428dfba5fbda2c00bb7044809bdb5f5ba7c", func := "bedrock/bedrocklaw03.DevicePrefixes", spec := "devicePrefixes", apart := false, narrowed := true }
def DevicePrefixesUptoSaid : Prop := devicePrefixesUptoRow.holds Try.pinned (OpenSpec.upto devicePrefixesSpec)

/-- 'bedrocklaw03.DeviceFences', WHERE WHAT IT READS IS OF BULK AT MOST 1048576: true; the input reads as it did. -/
def deviceFencesUptoRow : OpenClaim := { program := "ytkmhanjddkplbaa", sum := "303f78150a41a5eaceb1c40def13b428dfba5fbda2c00bb7044809bdb5f5ba7c", func := "bedrock/bedrocklaw03.DeviceFences", spec := "deviceFences", apart := false, narrowed := true }
def DeviceFencesUptoSaid : Prop := deviceFencesUptoRow.holds Try.pinned (OpenSpec.upto deviceFencesSpec)

/-- 'bedrocklaw03.DeviceKeeps', WHERE WHAT IT READS IS OF BULK AT MOST 1048576: true; the input reads as it did. -/
def deviceKeepsUptoRow : OpenClaim := { program := "ytkmhanjddkplbaa", sum := "303f78150a41a5eaceb1c40def13b428dfba5fbda2c00bb7044809bdb5f5ba7c", func := "bedrock/bedrocklaw03.DeviceKeeps", spec := "deviceKeeps", apart := false, narrowed := true }
def DeviceKeepsUptoSaid : Prop := deviceKeepsUptoRow.holds Try.pinned (OpenSpec.upto deviceKeepsSpec)

/-- 'bedrocklaw03.DeviceImages', WHERE WHAT IT READS IS OF BULK AT MOST 1048576: true; the input reads as it did. -/
def deviceImagesUptoRow : OpenClaim := { program := "ytkmhanjddkplbaa", sum := "303f78150a41a5eaceb1c40def13b428dfba5fbda2c00bb7044809bdb5f5ba7c", func := "bedrock/bedrocklaw03.DeviceImages", spec := "deviceImages", apart := false, narrowed := true }
def DeviceImagesUptoSaid : Prop := deviceImagesUptoRow.holds Try.pinned (OpenSpec.upto deviceImagesSpec)

/-- 'bedrocklaw03.DeviceCopies', WHERE WHAT IT READS IS OF BULK AT MOST 1048576: true; the input reads as it did. -/
def deviceCopiesUptoRow : OpenClaim := { program := "ytkmhanjddkplbaa", sum := "303f78150a41a5eaceb1c40def13b428dfba5fbda2c00bb7044809bdb5f5ba7c", func := "bedrock/bedrocklaw03.DeviceCopies", spec := "deviceCopies", inPlace := ["maps.clone"], apart := false, narrowed := true }
def DeviceCopiesUptoSaid : Prop := deviceCopiesUptoRow.holds Try.pinned (OpenSpec.upto deviceCopiesSpec)

/-- 'bedrocklaw03.DeviceNils', WHERE WHAT IT READS IS OF BULK AT MOST 1048576: true; the input reads as it did. -/
def deviceNilsUptoRow : OpenClaim := { program := "ytkmhanjddkplbaa", sum := "303f78150a41a5eaceb1c40def13b428dfba5fbda2c00bb7044809bdb5f5ba7c", func := "bedrock/bedrocklaw03.DeviceNils", spec := "deviceNils", inPlace := ["maps.clone"], apart := false, narrowed := true }
def DeviceNilsUptoSaid : Prop := deviceNilsUptoRow.holds Try.pinned (OpenSpec.upto deviceNilsSpec)

end Rows
end Go.Proofs.Ytkmhanjddkplbaa
