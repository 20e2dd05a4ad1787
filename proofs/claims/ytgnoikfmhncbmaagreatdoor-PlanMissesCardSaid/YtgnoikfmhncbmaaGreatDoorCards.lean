/-
  DERIVED. GIVEN WITH THE SEED: THE CARDS: each row of YtgnoikfmhncbmaaGreatDoorRows.lean that lists a variable, with what it lists TIED to the program's text (the seventh form; the later family's looks); each row that meets fmt, with fmt's text TOLD by the authors' own Lean function (tested against real Go, not proved from fmt's source: count such statements apart). THE CARD IS WHAT COUNTS. Prove the row's statement (the work); the ties are given (YtgnoikfmhncbmaaGreatDoorTie.lean); close each card by the builder's one call (the guide's Derived/Test/ToyasCard.lean, 'card_holds'). Laid BY PROGRAM, IN A SANDBOX (cutbox-door.mjs). By AI agents, Wed Nov 11 2026. No macro, syntax, notation, axiom, sorry.
-/
import Derived.Test.YtgnoikfmhncbmaaGreatDoorRows
import GoSem.ClaimSeven
namespace Go.Proofs.YtgnoikfmhncbmaaGreatDoor
namespace Rows

/-- THE TIED CARD OF 'bedrocklaw44.PlanBounds'. -/
def planBoundsCard : Claim7 := { stood := { row := planBoundsRow, standIns := [], harness := (true, "6ecf1761df921cd6130d05390afe0c799ecd26dddc4c753377ab9a11a70384b5"), looks := false }, kinds := [], alts := [], laidByText := true, laidKinds := [.data, .data, .data, .data, .pinned], laidTests := true, laidLooks := .later }
def PlanBoundsCardSaid : Prop := Claim7.holds Tryz.pinned (.plain (OpenSpec.ofChange planBoundsSpec)) planBoundsCard

/-- THE TIED CARD OF 'bedrocklaw44.PlanTexts'. -/
def planTextsCard : Claim7 := { stood := { row := planTextsRow, standIns := [], harness := (true, "6ecf1761df921cd6130d05390afe0c799ecd26dddc4c753377ab9a11a70384b5"), looks := false }, kinds := [], alts := [], laidByText := true, laidKinds := [.data, .data, .data, .data, .pinned], laidTests := true, laidLooks := .later }
def PlanTextsCardSaid : Prop := Claim7.holds Tryz.pinned (.plain (OpenSpec.ofChange planTextsSpec)) planTextsCard

/-- THE TIED CARD OF 'bedrocklaw44.PlanJoins'. -/
def planJoinsCard : Claim7 := { stood := { row := planJoinsRow, standIns := [], harness := (true, "6ecf1761df921cd6130d05390afe0c799ecd26dddc4c753377ab9a11a70384b5"), looks := false }, kinds := [], alts := [], laidByText := true, laidKinds := [.data, .data, .data, .data, .pinned], laidTests := true, laidLooks := .later }
def PlanJoinsCardSaid : Prop := Claim7.holds Tryz.pinned (.plain (OpenSpec.ofChange planJoinsSpec)) planJoinsCard

/-- THE TIED CARD OF 'bedrocklaw44.PlanHolds'. -/
def planHoldsCard : Claim7 := { stood := { row := planHoldsRow, standIns := [], harness := (true, "6ecf1761df921cd6130d05390afe0c799ecd26dddc4c753377ab9a11a70384b5"), looks := false }, kinds := [], alts := [], laidByText := true, laidKinds := [.data, .data, .data, .data, .pinned], laidTests := true, laidLooks := .later }
def PlanHoldsCardSaid : Prop := Claim7.holds Tryz.pinned (.plain (OpenSpec.ofChange planHoldsSpec)) planHoldsCard

/-- THE TIED CARD OF 'bedrocklaw44.PlanMisses'. -/
def planMissesCard : Claim7 := { stood := { row := planMissesRow, standIns := [], harness := (true, "6ecf1761df921cd6130d05390afe0c799ecd26dddc4c753377ab9a11a70384b5"), looks := false }, kinds := [], alts := [], laidByText := true, laidKinds := [.data, .data, .data, .data, .pinned], laidTests := true, laidLooks := .later }
def PlanMissesCardSaid : Prop := Claim7.holds Tryz.pinned (.plain (OpenSpec.ofChange planMissesSpec)) planMissesCard

/-- THE SECOND FORM's CARD OF 'bedrocklaw44.PlanBounds'. -/
def planBoundsUptoCard : Claim7 := { stood := { row := planBoundsUptoRow, standIns := [], harness := (true, "6ecf1761df921cd6130d05390afe0c799ecd26dddc4c753377ab9a11a70384b5"), looks := false }, kinds := [], alts := [], laidByText := true, laidKinds := [.data, .data, .data, .data, .pinned], laidTests := true, laidLooks := .later }
def PlanBoundsUptoCardSaid : Prop := Claim7.holds Tryz.pinned (.plain (OpenSpec.upto planBoundsSpec)) planBoundsUptoCard

/-- THE SECOND FORM's CARD OF 'bedrocklaw44.PlanTexts'. -/
def planTextsUptoCard : Claim7 := { stood := { row := planTextsUptoRow, standIns := [], harness := (true, "6ecf1761df921cd6130d05390afe0c799ecd26dddc4c753377ab9a11a70384b5"), looks := false }, kinds := [], alts := [], laidByText := true, laidKinds := [.data, .data, .data, .data, .pinned], laidTests := true, laidLooks := .later }
def PlanTextsUptoCardSaid : Prop := Claim7.holds Tryz.pinned (.plain (OpenSpec.upto planTextsSpec)) planTextsUptoCard

/-- THE SECOND FORM's CARD OF 'bedrocklaw44.PlanJoins'. -/
def planJoinsUptoCard : Claim7 := { stood := { row := planJoinsUptoRow, standIns := [], harness := (true, "6ecf1761df921cd6130d05390afe0c799ecd26dddc4c753377ab9a11a70384b5"), looks := false }, kinds := [], alts := [], laidByText := true, laidKinds := [.data, .data, .data, .data, .pinned], laidTests := true, laidLooks := .later }
def PlanJoinsUptoCardSaid : Prop := Claim7.holds Tryz.pinned (.plain (OpenSpec.upto planJoinsSpec)) planJoinsUptoCard

/-- THE SECOND FORM's CARD OF 'bedrocklaw44.PlanHolds'. -/
def planHoldsUptoCard : Claim7 := { stood := { row := planHoldsUptoRow, standIns := [], harness := (true, "6ecf1761df921cd6130d05390afe0c799ecd26dddc4c753377ab9a11a70384b5"), looks := false }, kinds := [], alts := [], laidByText := true, laidKinds := [.data, .data, .data, .data, .pinned], laidTests := true, laidLooks := .later }
def PlanHoldsUptoCardSaid : Prop := Claim7.holds Tryz.pinned (.plain (OpenSpec.upto planHoldsSpec)) planHoldsUptoCard

/-- THE SECOND FORM's CARD OF 'bedrocklaw44.PlanMisses'. -/
def planMissesUptoCard : Claim7 := { stood := { row := planMissesUptoRow, standIns := [], harness := (true, "6ecf1761df921cd6130d05390afe0c799ecd26dddc4c753377ab9a11a70384b5"), looks := false }, kinds := [], alts := [], laidByText := true, laidKinds := [.data, .data, .data, .data, .pinned], laidTests := true, laidLooks := .later }
def PlanMissesUptoCardSaid : Prop := Claim7.holds Tryz.pinned (.plain (OpenSpec.upto planMissesSpec)) planMissesUptoCard
end Rows
end Go.Proofs.YtgnoikfmhncbmaaGreatDoor
