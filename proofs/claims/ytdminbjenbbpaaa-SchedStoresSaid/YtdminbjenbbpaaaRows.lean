/-
  No cell of these rows narrows 'for every input' (looked for: loops, veiled, ifaces, maps, wideKeys, modest, calm, conditions, laid).
  DERIVED. THE GIVEN ROWS OF THIS SEAT. 8 by the template 'for every input the law returns true; each argument reads behind the call as it read before'; 0 by the template 'total and deterministic' (their statements: YtdminbjenbbpaaaTotals.lean).
  GIVEN WITH THE SEED: the statements are not yours to turn. If you find one false, say at which input.
  Laid BY PROGRAM, IN A SANDBOX (cutbox-rows.mjs): the forced cells as the released guide's own fill.sh prints them over the translation eb6ab2206f882bed… (all of the seat's roots in one cut). By AI agents, Wed Nov 11 2026. No macro, syntax, notation, axiom, sorry.
-/
import Derived.Test.YtdminbjenbbpaaaChecked
import GoSem.Claim
import GoSem.ClaimJoined
import GoSem.ClaimMapViews
import Derived.JoinedTies
import Derived.KernelRfl
namespace Go.Proofs.Ytdminbjenbbpaaa
/- THE CELL 'sum', in the pinned program and in every row, IS THE sha256 OF THE DUMP (.gsa) THAT YtdminbjenbbpaaaProg.lean LOADS. Nothing in Lean hashes anything: it is a label: what it is worth is what the hold of that sum in a sandbox is worth. -/
noncomputable def Try.pinned : Pinned := { name := "ytdminbjenbbpaaa", sum := "eb6ab2206f882beddf6a9fc1ceb81ffb326beb1021f5a0df8e9c03dd726b6d81", checked := Try.checked }
namespace Rows
def none {H : Type} : Left H := { results := [], args := [] }

/-- 'bedrocklaw08.SchedRuns': WHATEVER THE INPUT: true; the input reads as it did. -/
def schedRunsSpec : ChangeSpec := { name := "schedRuns", fn := fun _ => fun
  | [d1, d2] => { results := [.lit (.bool true)], args := [d1, d2] }
  | _ => none }
def schedRunsRow : OpenClaim := { program := "ytdminbjenbbpaaa", sum := "eb6ab2206f882beddf6a9fc1ceb81ffb326beb1021f5a0df8e9c03dd726b6d81", func := "bedrock/bedrocklaw08.SchedRuns", spec := "schedRuns", unfollowed := true, recurses := true, named := ["math/bits.divideError", "math/bits.overflowError"], apart := false }
def SchedRunsSaid : Prop := schedRunsRow.holds Try.pinned (OpenSpec.ofChange schedRunsSpec)

/-- ITS FALSE NEIGHBOUR: 'it returns false'. Refute it at one input. -/
def schedRunsWrong : ChangeSpec := { name := "schedRuns", fn := fun _ => fun
  | [d1, d2] => { results := [.lit (.bool false)], args := [d1, d2] }
  | _ => none }
def SchedRunsWrongFalsely : Prop := schedRunsRow.holds Try.pinned (OpenSpec.ofChange schedRunsWrong)

/-- 'bedrocklaw08.SchedGreat': WHATEVER THE INPUT: true; the input reads as it did. -/
def schedGreatSpec : ChangeSpec := { name := "schedGreat", fn := fun _ => fun
  | [d1, d2] => { results := [.lit (.bool true)], args := [d1, d2] }
  | _ => none }
def schedGreatRow : OpenClaim := { program := "ytdminbjenbbpaaa", sum := "eb6ab2206f882beddf6a9fc1ceb81ffb326beb1021f5a0df8e9c03dd726b6d81", func := "bedrock/bedrocklaw08.SchedGreat", spec := "schedGreat", unfollowed := true, recurses := true, named := ["math/bits.divideError", "math/bits.overflowError"], apart := false }
def SchedGreatSaid : Prop := schedGreatRow.holds Try.pinned (OpenSpec.ofChange schedGreatSpec)

/-- ITS FALSE NEIGHBOUR: 'it returns false'. Refute it at one input. -/
def schedGreatWrong : ChangeSpec := { name := "schedGreat", fn := fun _ => fun
  | [d1, d2] => { results := [.lit (.bool false)], args := [d1, d2] }
  | _ => none }
def SchedGreatWrongFalsely : Prop := schedGreatRow.holds Try.pinned (OpenSpec.ofChange schedGreatWrong)

/-- 'bedrocklaw08.SchedRounds': WHATEVER THE INPUT: true; the input reads as it did. -/
def schedRoundsSpec : ChangeSpec := { name := "schedRounds", fn := fun _ => fun
  | [d1, d2] => { results := [.lit (.bool true)], args := [d1, d2] }
  | _ => none }
def schedRoundsRow : OpenClaim := { program := "ytdminbjenbbpaaa", sum := "eb6ab2206f882beddf6a9fc1ceb81ffb326beb1021f5a0df8e9c03dd726b6d81", func := "bedrock/bedrocklaw08.SchedRounds", spec := "schedRounds", unfollowed := true, recurses := true, named := ["math/bits.divideError", "math/bits.overflowError"], apart := false }
def SchedRoundsSaid : Prop := schedRoundsRow.holds Try.pinned (OpenSpec.ofChange schedRoundsSpec)

/-- ITS FALSE NEIGHBOUR: 'it returns false'. Refute it at one input. -/
def schedRoundsWrong : ChangeSpec := { name := "schedRounds", fn := fun _ => fun
  | [d1, d2] => { results := [.lit (.bool false)], args := [d1, d2] }
  | _ => none }
def SchedRoundsWrongFalsely : Prop := schedRoundsRow.holds Try.pinned (OpenSpec.ofChange schedRoundsWrong)

/-- 'bedrocklaw08.SchedFinishes': WHATEVER THE INPUT: true; the input reads as it did. -/
def schedFinishesSpec : ChangeSpec := { name := "schedFinishes", fn := fun _ => fun
  | [d1, d2, d3] => { results := [.lit (.bool true)], args := [d1, d2, d3] }
  | _ => none }
def schedFinishesRow : OpenClaim := { program := "ytdminbjenbbpaaa", sum := "eb6ab2206f882beddf6a9fc1ceb81ffb326beb1021f5a0df8e9c03dd726b6d81", func := "bedrock/bedrocklaw08.SchedFinishes", spec := "schedFinishes", unfollowed := true, recurses := true, named := ["math/bits.divideError", "math/bits.overflowError"], apart := false }
def SchedFinishesSaid : Prop := schedFinishesRow.holds Try.pinned (OpenSpec.ofChange schedFinishesSpec)

/-- ITS FALSE NEIGHBOUR: 'it returns false'. Refute it at one input. -/
def schedFinishesWrong : ChangeSpec := { name := "schedFinishes", fn := fun _ => fun
  | [d1, d2, d3] => { results := [.lit (.bool false)], args := [d1, d2, d3] }
  | _ => none }
def SchedFinishesWrongFalsely : Prop := schedFinishesRow.holds Try.pinned (OpenSpec.ofChange schedFinishesWrong)

/-- 'bedrocklaw08.SchedNil': WHATEVER THE INPUT: true; the input reads as it did. -/
def schedNilSpec : ChangeSpec := { name := "schedNil", fn := fun _ => fun
  | [d1, d2, d3] => { results := [.lit (.bool true)], args := [d1, d2, d3] }
  | _ => none }
def schedNilRow : OpenClaim := { program := "ytdminbjenbbpaaa", sum := "eb6ab2206f882beddf6a9fc1ceb81ffb326beb1021f5a0df8e9c03dd726b6d81", func := "bedrock/bedrocklaw08.SchedNil", spec := "schedNil", unfollowed := true, recurses := true, named := ["math/bits.divideError", "math/bits.overflowError"], apart := false }
def SchedNilSaid : Prop := schedNilRow.holds Try.pinned (OpenSpec.ofChange schedNilSpec)

/-- ITS FALSE NEIGHBOUR: 'it returns false'. Refute it at one input. -/
def schedNilWrong : ChangeSpec := { name := "schedNil", fn := fun _ => fun
  | [d1, d2, d3] => { results := [.lit (.bool false)], args := [d1, d2, d3] }
  | _ => none }
def SchedNilWrongFalsely : Prop := schedNilRow.holds Try.pinned (OpenSpec.ofChange schedNilWrong)

/-- 'bedrocklaw08.SchedStores': WHATEVER THE INPUT: true; the input reads as it did. -/
def schedStoresSpec : ChangeSpec := { name := "schedStores", fn := fun _ => fun
  | [d1, d2, d3] => { results := [.lit (.bool true)], args := [d1, d2, d3] }
  | _ => none }
def schedStoresRow : OpenClaim := { program := "ytdminbjenbbpaaa", sum := "eb6ab2206f882beddf6a9fc1ceb81ffb326beb1021f5a0df8e9c03dd726b6d81", func := "bedrock/bedrocklaw08.SchedStores", spec := "schedStores", unfollowed := true, recurses := true, named := ["math/bits.divideError", "math/bits.overflowError"], apart := false }
def SchedStoresSaid : Prop := schedStoresRow.holds Try.pinned (OpenSpec.ofChange schedStoresSpec)

/-- ITS FALSE NEIGHBOUR: 'it returns false'. Refute it at one input. -/
def schedStoresWrong : ChangeSpec := { name := "schedStores", fn := fun _ => fun
  | [d1, d2, d3] => { results := [.lit (.bool false)], args := [d1, d2, d3] }
  | _ => none }
def SchedStoresWrongFalsely : Prop := schedStoresRow.holds Try.pinned (OpenSpec.ofChange schedStoresWrong)

/-- 'bedrocklaw08.SchedOrders': WHATEVER THE INPUT: true; the input reads as it did. -/
def schedOrdersSpec : ChangeSpec := { name := "schedOrders", fn := fun _ => fun
  | [d1, d2] => { results := [.lit (.bool true)], args := [d1, d2] }
  | _ => none }
def schedOrdersRow : OpenClaim := { program := "ytdminbjenbbpaaa", sum := "eb6ab2206f882beddf6a9fc1ceb81ffb326beb1021f5a0df8e9c03dd726b6d81", func := "bedrock/bedrocklaw08.SchedOrders", spec := "schedOrders", unfollowed := true, recurses := true, named := ["math/bits.divideError", "math/bits.overflowError"], apart := false }
def SchedOrdersSaid : Prop := schedOrdersRow.holds Try.pinned (OpenSpec.ofChange schedOrdersSpec)

/-- ITS FALSE NEIGHBOUR: 'it returns false'. Refute it at one input. -/
def schedOrdersWrong : ChangeSpec := { name := "schedOrders", fn := fun _ => fun
  | [d1, d2] => { results := [.lit (.bool false)], args := [d1, d2] }
  | _ => none }
def SchedOrdersWrongFalsely : Prop := schedOrdersRow.holds Try.pinned (OpenSpec.ofChange schedOrdersWrong)

/-- 'bedrocklaw08.SchedCounts': WHATEVER THE INPUT: true; the input reads as it did. -/
def schedCountsSpec : ChangeSpec := { name := "schedCounts", fn := fun _ => fun
  | [d] => { results := [.lit (.bool true)], args := [d] }
  | _ => none }
def schedCountsRow : OpenClaim := { program := "ytdminbjenbbpaaa", sum := "eb6ab2206f882beddf6a9fc1ceb81ffb326beb1021f5a0df8e9c03dd726b6d81", func := "bedrock/bedrocklaw08.SchedCounts", spec := "schedCounts", unfollowed := true, recurses := true, named := ["math/bits.divideError", "math/bits.overflowError"], apart := false }
def SchedCountsSaid : Prop := schedCountsRow.holds Try.pinned (OpenSpec.ofChange schedCountsSpec)

/-- ITS FALSE NEIGHBOUR: 'it returns false'. Refute it at one input. -/
def schedCountsWrong : ChangeSpec := { name := "schedCounts", fn := fun _ => fun
  | [d] => { results := [.lit (.bool false)], args := [d] }
  | _ => none }
def SchedCountsWrongFalsely : Prop := schedCountsRow.holds Try.pinned (OpenSpec.ofChange schedCountsWrong)

/- THE SECOND FORM. 'bulk': how many values and letters a reading holds, each counted each time it is reached (what is shared counts as often as it is met; a slice's spare places count too). A statement '..UptoSaid' is the law's where the arguments, and the package variables that the reading takes, are together of bulk at most 1048576: NARROWER than '..Said'. Prove '..Said' where nothing that the law and all that it calls make is longer than what came in: it says more and counts as full. Else prove '..UptoSaid'. A law counts once. -/
mutual
def uptoBulk {H : Type} : DataW H → Nat
  | .lit (.string bytes) => bytes.length + 1
  | .lit _ => 1
  | .nil => 1
  | .ptr d => uptoBulk d + 1
  | .slice elems spare => uptoBulkAll elems + uptoBulkAll spare + 1
  | .agg parts => uptoBulkAll parts + 1
  | .iface _ d => uptoBulk d + 1
  | .map entries => uptoBulkEntries entries + 1
  | .held _ => 1
def uptoBulkAll {H : Type} : List (DataW H) → Nat
  | [] => 0
  | d :: r => uptoBulk d + uptoBulkAll r
def uptoBulkEntries {H : Type} : List (Lit × DataW H) → Nat
  | [] => 0
  | x :: r => uptoBulkEntry x + uptoBulkEntries r
def uptoBulkEntry {H : Type} : Lit × DataW H → Nat
  | (.string bytes, d) => bytes.length + uptoBulk d + 1
  | (_, d) => uptoBulk d + 1
 end
def uptoSmall : (H : Type) → List (DataW H) → Bool := fun _ ds => decide (uptoBulkAll ds ≤ 1048576)
def OpenSpec.upto (s : _root_.Go.ChangeSpec) : _root_.Go.OpenSpec := { _root_.Go.OpenSpec.ofChange s with cond := some uptoSmall }

/-- 'bedrocklaw08.SchedRuns', WHERE WHAT IT READS IS OF BULK AT MOST 1048576: true; the input reads as it did. -/
def schedRunsUptoRow : OpenClaim := { program := "ytdminbjenbbpaaa", sum := "eb6ab2206f882beddf6a9fc1ceb81ffb326beb1021f5a0df8e9c03dd726b6d81", func := "bedrock/bedrocklaw08.SchedRuns", spec := "schedRuns", unfollowed := true, recurses := true, named := ["math/bits.divideError", "math/bits.overflowError"], apart := false, narrowed := true }
def SchedRunsUptoSaid : Prop := schedRunsUptoRow.holds Try.pinned (OpenSpec.upto schedRunsSpec)

/-- 'bedrocklaw08.SchedGreat', WHERE WHAT IT READS IS OF BULK AT MOST 1048576: true; the input reads as it did. -/
def schedGreatUptoRow : OpenClaim := { program := "ytdminbjenbbpaaa", sum := "eb6ab2206f882beddf6a9fc1ceb81ffb326beb1021f5a0df8e9c03dd726b6d81", func := "bedrock/bedrocklaw08.SchedGreat", spec := "schedGreat", unfollowed := true, recurses := true, named := ["math/bits.divideError", "math/bits.overflowError"], apart := false, narrowed := true }
def SchedGreatUptoSaid : Prop := schedGreatUptoRow.holds Try.pinned (OpenSpec.upto schedGreatSpec)

/-- 'bedrocklaw08.SchedRounds', WHERE WHAT IT READS IS OF BULK AT MOST 1048576: true; the input reads as it did. -/
def schedRoundsUptoRow : OpenClaim := { program := "ytdminbjenbbpaaa", sum := "eb6ab2206f882beddf6a9fc1ceb81ffb326beb1021f5a0df8e9c03dd726b6d81", func := "bedrock/bedrocklaw08.SchedRounds", spec := "schedRounds", unfollowed := true, recurses := true, named := ["math/bits.divideError", "math/bits.overflowError"], apart := false, narrowed := true }
def SchedRoundsUptoSaid : Prop := schedRoundsUptoRow.holds Try.pinned (OpenSpec.upto schedRoundsSpec)

/-- 'bedrocklaw08.SchedFinishes', WHERE WHAT IT READS IS OF BULK AT MOST 1048576: true; the input reads as it did. -/
def schedFinishesUptoRow : OpenClaim := { program := "ytdminbjenbbpaaa", sum := "eb6ab2206f882beddf6a9fc1ceb81ffb326beb1021f5a0df8e9c03dd726b6d81", func := "bedrock/bedrocklaw08.SchedFinishes", spec := "schedFinishes", unfollowed := true, recurses := true, named := ["math/bits.divideError", "math/bits.overflowError"], apart := false, narrowed := true }
def SchedFinishesUptoSaid : Prop := schedFinishesUptoRow.holds Try.pinned (OpenSpec.upto schedFinishesSpec)

/-- 'bedrocklaw08.SchedNil', WHERE WHAT IT READS IS OF BULK AT MOST 1048576: true; the input reads as it did. -/
def schedNilUptoRow : OpenClaim := { program := "ytdminbjenbbpaaa", sum := "eb6ab2206f882beddf6a9fc1ceb81ffb326beb1021f5a0df8e9c03dd726b6d81", func := "bedrock/bedrocklaw08.SchedNil", spec := "schedNil", unfollowed := true, recurses := true, named := ["math/bits.divideError", "math/bits.overflowError"], apart := false, narrowed := true }
def SchedNilUptoSaid : Prop := schedNilUptoRow.holds Try.pinned (OpenSpec.upto schedNilSpec)

/-- 'bedrocklaw08.SchedStores', WHERE WHAT IT READS IS OF BULK AT MOST 1048576: true; the input reads as it did. -/
def schedStoresUptoRow : OpenClaim := { program := "ytdminbjenbbpaaa", sum := "eb6ab2206f882beddf6a9fc1ceb81ffb326beb1021f5a0df8e9c03dd726b6d81", func := "bedrock/bedrocklaw08.SchedStores", spec := "schedStores", unfollowed := true, recurses := true, named := ["math/bits.divideError", "math/bits.overflowError"], apart := false, narrowed := true }
def SchedStoresUptoSaid : Prop := schedStoresUptoRow.holds Try.pinned (OpenSpec.upto schedStoresSpec)

/-- 'bedrocklaw08.SchedOrders', WHERE WHAT IT READS IS OF BULK AT MOST 1048576: true; the input reads as it did. -/
def schedOrdersUptoRow : OpenClaim := { program := "ytdminbjenbbpaaa", sum := "eb6ab2206f882beddf6a9fc1ceb81ffb326beb1021f5a0df8e9c03dd726b6d81", func := "bedrock/bedrocklaw08.SchedOrders", spec := "schedOrders", unfollowed := true, recurses := true, named := ["math/bits.divideError", "math/bits.overflowError"], apart := false, narrowed := true }
def SchedOrdersUptoSaid : Prop := schedOrdersUptoRow.holds Try.pinned (OpenSpec.upto schedOrdersSpec)

/-- 'bedrocklaw08.SchedCounts', WHERE WHAT IT READS IS OF BULK AT MOST 1048576: true; the input reads as it did. -/
def schedCountsUptoRow : OpenClaim := { program := "ytdminbjenbbpaaa", sum := "eb6ab2206f882beddf6a9fc1ceb81ffb326beb1021f5a0df8e9c03dd726b6d81", func := "bedrock/bedrocklaw08.SchedCounts", spec := "schedCounts", unfollowed := true, recurses := true, named := ["math/bits.divideError", "math/bits.overflowError"], apart := false, narrowed := true }
def SchedCountsUptoSaid : Prop := schedCountsUptoRow.holds Try.pinned (OpenSpec.upto schedCountsSpec)

end Rows
end Go.Proofs.Ytdminbjenbbpaaa
