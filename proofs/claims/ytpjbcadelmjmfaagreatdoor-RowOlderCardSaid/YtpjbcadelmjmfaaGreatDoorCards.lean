/-
  DERIVED. GIVEN WITH THE SEED: THE CARDS: each row of YtpjbcadelmjmfaaGreatDoorRows.lean that lists a variable, with what it lists TIED to the program's text (the seventh form; the later family's looks); each row that meets fmt, with fmt's text TOLD by the authors' own Lean function (tested against real Go, not proved from fmt's source: count such statements apart). THE CARD IS WHAT COUNTS. Prove the row's statement (the work); the ties are given (YtpjbcadelmjmfaaGreatDoorTie.lean); close each card by the builder's one call (the guide's Derived/Test/ToyasCard.lean, 'card_holds'). Laid BY PROGRAM, IN A SANDBOX (cutbox-door.mjs). By AI agents, Wed Nov 11 2026. No macro, syntax, notation, axiom, sorry.
-/
import Derived.Test.YtpjbcadelmjmfaaGreatDoorRows
import GoSem.ClaimSeven
namespace Go.Proofs.YtpjbcadelmjmfaaGreatDoor
namespace Rows

/-- THE TIED CARD OF 'bedrocklaw40.RowEncodes'. -/
def rowEncodesCard : Claim7 := { stood := { row := rowEncodesRow, standIns := [], harness := (true, "113302d766f8cc620eddcc904da421f312fbaa006a29ff363da8393739dc994c"), looks := true }, kinds := [], alts := [], laidByText := true, laidKinds := [.data, .data, .data, .data, .sentinel, .sentinel, .pinned], laidTests := true, laidLooks := .later }
def RowEncodesCardSaid : Prop := Claim7.holds Tryz.pinned (.plain (OpenSpec.ofChange rowEncodesSpec)) rowEncodesCard

/-- THE TIED CARD OF 'bedrocklaw40.RowTexts'. -/
def rowTextsCard : Claim7 := { stood := { row := rowTextsRow, standIns := [], harness := (true, "113302d766f8cc620eddcc904da421f312fbaa006a29ff363da8393739dc994c"), looks := true }, kinds := [], alts := [], laidByText := true, laidKinds := [.data, .data, .data, .data, .sentinel, .sentinel, .pinned], laidTests := true, laidLooks := .later }
def RowTextsCardSaid : Prop := Claim7.holds Tryz.pinned (.plain (OpenSpec.ofChange rowTextsSpec)) rowTextsCard

/-- THE TIED CARD OF 'bedrocklaw40.RowLiterals'. -/
def rowLiteralsCard : Claim7 := { stood := { row := rowLiteralsRow, standIns := [], harness := (true, "113302d766f8cc620eddcc904da421f312fbaa006a29ff363da8393739dc994c"), looks := true }, kinds := [], alts := [], laidByText := true, laidKinds := [.data, .data, .data, .data, .sentinel, .sentinel, .pinned], laidTests := true, laidLooks := .later }
def RowLiteralsCardSaid : Prop := Claim7.holds Tryz.pinned (.plain (OpenSpec.ofChange rowLiteralsSpec)) rowLiteralsCard

/-- THE TIED CARD OF 'bedrocklaw40.RowOrder'. -/
def rowOrderCard : Claim7 := { stood := { row := rowOrderRow, standIns := [], harness := (true, "113302d766f8cc620eddcc904da421f312fbaa006a29ff363da8393739dc994c"), looks := true }, kinds := [], alts := [], laidByText := true, laidKinds := [.data, .data, .data, .data, .sentinel, .sentinel, .pinned], laidTests := true, laidLooks := .later }
def RowOrderCardSaid : Prop := Claim7.holds Tryz.pinned (.plain (OpenSpec.ofChange rowOrderSpec)) rowOrderCard

/-- THE TIED CARD OF 'bedrocklaw40.RowBack'. -/
def rowBackCard : Claim7 := { stood := { row := rowBackRow, standIns := [], harness := (true, "113302d766f8cc620eddcc904da421f312fbaa006a29ff363da8393739dc994c"), looks := true }, kinds := [], alts := [], laidByText := true, laidKinds := [.data, .data, .data, .data, .sentinel, .sentinel, .pinned], laidTests := true, laidLooks := .later }
def RowBackCardSaid : Prop := Claim7.holds Tryz.pinned (.plain (OpenSpec.ofChange rowBackSpec)) rowBackCard

/-- THE TIED CARD OF 'bedrocklaw40.RowChanged'. -/
def rowChangedCard : Claim7 := { stood := { row := rowChangedRow, standIns := [], harness := (true, "113302d766f8cc620eddcc904da421f312fbaa006a29ff363da8393739dc994c"), looks := true }, kinds := [], alts := [], laidByText := true, laidKinds := [.data, .data, .data, .data, .sentinel, .sentinel, .pinned], laidTests := true, laidLooks := .later }
def RowChangedCardSaid : Prop := Claim7.holds Tryz.pinned (.plain (OpenSpec.ofChange rowChangedSpec)) rowChangedCard

/-- THE TIED CARD OF 'bedrocklaw40.RowTables'. -/
def rowTablesCard : Claim7 := { stood := { row := rowTablesRow, standIns := [], harness := (true, "113302d766f8cc620eddcc904da421f312fbaa006a29ff363da8393739dc994c"), looks := true }, kinds := [], alts := [], laidByText := true, laidKinds := [.data, .data, .data, .data, .sentinel, .sentinel, .pinned], laidTests := true, laidLooks := .later }
def RowTablesCardSaid : Prop := Claim7.holds Tryz.pinned (.plain (OpenSpec.ofChange rowTablesSpec)) rowTablesCard

/-- THE TIED CARD OF 'bedrocklaw40.RowDecodes'. -/
def rowDecodesCard : Claim7 := { stood := { row := rowDecodesRow, standIns := [], harness := (true, "113302d766f8cc620eddcc904da421f312fbaa006a29ff363da8393739dc994c"), looks := true }, kinds := [], alts := [], laidByText := true, laidKinds := [.data, .data, .data, .data, .sentinel, .sentinel, .pinned], laidTests := true, laidLooks := .later }
def RowDecodesCardSaid : Prop := Claim7.holds Tryz.pinned (.plain (OpenSpec.ofChange rowDecodesSpec)) rowDecodesCard

/-- THE TIED CARD OF 'bedrocklaw40.RowCompares'. -/
def rowComparesCard : Claim7 := { stood := { row := rowComparesRow, standIns := [], harness := (true, "113302d766f8cc620eddcc904da421f312fbaa006a29ff363da8393739dc994c"), looks := true }, kinds := [], alts := [], laidByText := true, laidKinds := [.data, .data, .data, .data, .sentinel, .sentinel, .pinned], laidTests := true, laidLooks := .later }
def RowComparesCardSaid : Prop := Claim7.holds Tryz.pinned (.plain (OpenSpec.ofChange rowComparesSpec)) rowComparesCard

/-- THE TIED CARD OF 'bedrocklaw40.RowOlder'. -/
def rowOlderCard : Claim7 := { stood := { row := rowOlderRow, standIns := [], harness := (true, "113302d766f8cc620eddcc904da421f312fbaa006a29ff363da8393739dc994c"), looks := true }, kinds := [], alts := [], laidByText := true, laidKinds := [.data, .data, .data, .data, .sentinel, .sentinel, .pinned], laidTests := true, laidLooks := .later }
def RowOlderCardSaid : Prop := Claim7.holds Tryz.pinned (.plain (OpenSpec.ofChange rowOlderSpec)) rowOlderCard

/-- THE SECOND FORM's CARD OF 'bedrocklaw40.RowEncodes'. -/
def rowEncodesUptoCard : Claim7 := { stood := { row := rowEncodesUptoRow, standIns := [], harness := (true, "113302d766f8cc620eddcc904da421f312fbaa006a29ff363da8393739dc994c"), looks := true }, kinds := [], alts := [], laidByText := true, laidKinds := [.data, .data, .data, .data, .sentinel, .sentinel, .pinned], laidTests := true, laidLooks := .later }
def RowEncodesUptoCardSaid : Prop := Claim7.holds Tryz.pinned (.plain (OpenSpec.upto rowEncodesSpec)) rowEncodesUptoCard

/-- THE SECOND FORM's CARD OF 'bedrocklaw40.RowTexts'. -/
def rowTextsUptoCard : Claim7 := { stood := { row := rowTextsUptoRow, standIns := [], harness := (true, "113302d766f8cc620eddcc904da421f312fbaa006a29ff363da8393739dc994c"), looks := true }, kinds := [], alts := [], laidByText := true, laidKinds := [.data, .data, .data, .data, .sentinel, .sentinel, .pinned], laidTests := true, laidLooks := .later }
def RowTextsUptoCardSaid : Prop := Claim7.holds Tryz.pinned (.plain (OpenSpec.upto rowTextsSpec)) rowTextsUptoCard

/-- THE SECOND FORM's CARD OF 'bedrocklaw40.RowLiterals'. -/
def rowLiteralsUptoCard : Claim7 := { stood := { row := rowLiteralsUptoRow, standIns := [], harness := (true, "113302d766f8cc620eddcc904da421f312fbaa006a29ff363da8393739dc994c"), looks := true }, kinds := [], alts := [], laidByText := true, laidKinds := [.data, .data, .data, .data, .sentinel, .sentinel, .pinned], laidTests := true, laidLooks := .later }
def RowLiteralsUptoCardSaid : Prop := Claim7.holds Tryz.pinned (.plain (OpenSpec.upto rowLiteralsSpec)) rowLiteralsUptoCard

/-- THE SECOND FORM's CARD OF 'bedrocklaw40.RowOrder'. -/
def rowOrderUptoCard : Claim7 := { stood := { row := rowOrderUptoRow, standIns := [], harness := (true, "113302d766f8cc620eddcc904da421f312fbaa006a29ff363da8393739dc994c"), looks := true }, kinds := [], alts := [], laidByText := true, laidKinds := [.data, .data, .data, .data, .sentinel, .sentinel, .pinned], laidTests := true, laidLooks := .later }
def RowOrderUptoCardSaid : Prop := Claim7.holds Tryz.pinned (.plain (OpenSpec.upto rowOrderSpec)) rowOrderUptoCard

/-- THE SECOND FORM's CARD OF 'bedrocklaw40.RowBack'. -/
def rowBackUptoCard : Claim7 := { stood := { row := rowBackUptoRow, standIns := [], harness := (true, "113302d766f8cc620eddcc904da421f312fbaa006a29ff363da8393739dc994c"), looks := true }, kinds := [], alts := [], laidByText := true, laidKinds := [.data, .data, .data, .data, .sentinel, .sentinel, .pinned], laidTests := true, laidLooks := .later }
def RowBackUptoCardSaid : Prop := Claim7.holds Tryz.pinned (.plain (OpenSpec.upto rowBackSpec)) rowBackUptoCard

/-- THE SECOND FORM's CARD OF 'bedrocklaw40.RowChanged'. -/
def rowChangedUptoCard : Claim7 := { stood := { row := rowChangedUptoRow, standIns := [], harness := (true, "113302d766f8cc620eddcc904da421f312fbaa006a29ff363da8393739dc994c"), looks := true }, kinds := [], alts := [], laidByText := true, laidKinds := [.data, .data, .data, .data, .sentinel, .sentinel, .pinned], laidTests := true, laidLooks := .later }
def RowChangedUptoCardSaid : Prop := Claim7.holds Tryz.pinned (.plain (OpenSpec.upto rowChangedSpec)) rowChangedUptoCard

/-- THE SECOND FORM's CARD OF 'bedrocklaw40.RowTables'. -/
def rowTablesUptoCard : Claim7 := { stood := { row := rowTablesUptoRow, standIns := [], harness := (true, "113302d766f8cc620eddcc904da421f312fbaa006a29ff363da8393739dc994c"), looks := true }, kinds := [], alts := [], laidByText := true, laidKinds := [.data, .data, .data, .data, .sentinel, .sentinel, .pinned], laidTests := true, laidLooks := .later }
def RowTablesUptoCardSaid : Prop := Claim7.holds Tryz.pinned (.plain (OpenSpec.upto rowTablesSpec)) rowTablesUptoCard

/-- THE SECOND FORM's CARD OF 'bedrocklaw40.RowDecodes'. -/
def rowDecodesUptoCard : Claim7 := { stood := { row := rowDecodesUptoRow, standIns := [], harness := (true, "113302d766f8cc620eddcc904da421f312fbaa006a29ff363da8393739dc994c"), looks := true }, kinds := [], alts := [], laidByText := true, laidKinds := [.data, .data, .data, .data, .sentinel, .sentinel, .pinned], laidTests := true, laidLooks := .later }
def RowDecodesUptoCardSaid : Prop := Claim7.holds Tryz.pinned (.plain (OpenSpec.upto rowDecodesSpec)) rowDecodesUptoCard

/-- THE SECOND FORM's CARD OF 'bedrocklaw40.RowCompares'. -/
def rowComparesUptoCard : Claim7 := { stood := { row := rowComparesUptoRow, standIns := [], harness := (true, "113302d766f8cc620eddcc904da421f312fbaa006a29ff363da8393739dc994c"), looks := true }, kinds := [], alts := [], laidByText := true, laidKinds := [.data, .data, .data, .data, .sentinel, .sentinel, .pinned], laidTests := true, laidLooks := .later }
def RowComparesUptoCardSaid : Prop := Claim7.holds Tryz.pinned (.plain (OpenSpec.upto rowComparesSpec)) rowComparesUptoCard

/-- THE SECOND FORM's CARD OF 'bedrocklaw40.RowOlder'. -/
def rowOlderUptoCard : Claim7 := { stood := { row := rowOlderUptoRow, standIns := [], harness := (true, "113302d766f8cc620eddcc904da421f312fbaa006a29ff363da8393739dc994c"), looks := true }, kinds := [], alts := [], laidByText := true, laidKinds := [.data, .data, .data, .data, .sentinel, .sentinel, .pinned], laidTests := true, laidLooks := .later }
def RowOlderUptoCardSaid : Prop := Claim7.holds Tryz.pinned (.plain (OpenSpec.upto rowOlderSpec)) rowOlderUptoCard
end Rows
end Go.Proofs.YtpjbcadelmjmfaaGreatDoor
