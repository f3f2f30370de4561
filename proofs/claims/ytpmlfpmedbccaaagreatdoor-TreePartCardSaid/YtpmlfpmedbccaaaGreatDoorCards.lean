/-
  DERIVED. GIVEN WITH THE SEED: THE CARDS: each row of YtpmlfpmedbccaaaGreatDoorRows.lean that lists a variable, with what it lists TIED to the program's text (the seventh form; the later family's looks); each row that meets fmt, with fmt's text TOLD by the authors' own Lean function (tested against real Go, not proved from fmt's source: count such statements apart). THE CARD IS WHAT COUNTS. Prove the row's statement (the work); the ties are given (YtpmlfpmedbccaaaGreatDoorTie.lean); close each card by the builder's one call (the guide's Derived/Test/ToyasCard.lean, 'card_holds'). Laid BY PROGRAM, IN A SANDBOX (cutbox-door.mjs). By AI agents, Wed Nov 11 2026. No macro, syntax, notation, axiom, sorry.
-/
import Derived.Test.YtpmlfpmedbccaaaGreatDoorRows
import GoSem.ClaimSeven
namespace Go.Proofs.YtpmlfpmedbccaaaGreatDoor
namespace Rows

/-- THE TIED CARD OF 'heraldlaw4.TreeLoaded'. -/
def treeLoadedCard : Claim7 := { stood := { row := treeLoadedRow, standIns := [], harness := (true, "5cb52912b965ebdb9857b566f0b111212cb72f933a012b15fe95d9741acf3786"), looks := true }, kinds := [], alts := [], laidByText := true, laidKinds := [.data, .data, .data, .data, .data, .pinned], laidTests := true, laidLooks := .later }
def TreeLoadedCardSaid : Prop := Claim7.holds Tryz.pinned (.plain (OpenSpec.ofChange treeLoadedSpec)) treeLoadedCard

/-- THE TIED CARD OF 'heraldlaw4.TreeTells'. -/
def treeTellsCard : Claim7 := { stood := { row := treeTellsRow, standIns := [], harness := (true, "5cb52912b965ebdb9857b566f0b111212cb72f933a012b15fe95d9741acf3786"), looks := true }, kinds := [], alts := [], laidByText := true, laidKinds := [.data, .data, .data, .data, .data, .pinned], laidTests := true, laidLooks := .later }
def TreeTellsCardSaid : Prop := Claim7.holds Tryz.pinned (.plain (OpenSpec.ofChange treeTellsSpec)) treeTellsCard

/-- THE TIED CARD OF 'heraldlaw4.TreePart'. -/
def treePartCard : Claim7 := { stood := { row := treePartRow, standIns := [], harness := (true, "5cb52912b965ebdb9857b566f0b111212cb72f933a012b15fe95d9741acf3786"), looks := true }, kinds := [], alts := [], laidByText := true, laidKinds := [.data, .data, .data, .data, .data, .pinned], laidTests := true, laidLooks := .later }
def TreePartCardSaid : Prop := Claim7.holds Tryz.pinned (.plain (OpenSpec.ofChange treePartSpec)) treePartCard

/-- THE TIED CARD OF 'heraldlaw4.TreeOwn'. -/
def treeOwnCard : Claim7 := { stood := { row := treeOwnRow, standIns := [], harness := (true, "5cb52912b965ebdb9857b566f0b111212cb72f933a012b15fe95d9741acf3786"), looks := true }, kinds := [], alts := [], laidByText := true, laidKinds := [.data, .data, .data, .data, .data, .pinned], laidTests := true, laidLooks := .later }
def TreeOwnCardSaid : Prop := Claim7.holds Tryz.pinned (.plain (OpenSpec.ofChange treeOwnSpec)) treeOwnCard

/-- THE TIED CARD OF 'heraldlaw5.ShotTakes'. -/
def shotTakesCard : Claim7 := { stood := { row := shotTakesRow, standIns := [], harness := (true, "5cb52912b965ebdb9857b566f0b111212cb72f933a012b15fe95d9741acf3786"), looks := true }, kinds := [], alts := [], laidByText := true, laidKinds := [.data, .data, .data, .data, .data, .pinned], laidTests := true, laidLooks := .later }
def ShotTakesCardSaid : Prop := Claim7.holds Tryz.pinned (.plain (OpenSpec.ofChange shotTakesSpec)) shotTakesCard

/-- THE TIED CARD OF 'heraldlaw4.TreePlays'. -/
def treePlaysCard : Claim7 := { stood := { row := treePlaysRow, standIns := [], harness := (true, "5cb52912b965ebdb9857b566f0b111212cb72f933a012b15fe95d9741acf3786"), looks := true }, kinds := [], alts := [], laidByText := true, laidKinds := [.data, .data, .data, .data, .data, .pinned], laidTests := true, laidLooks := .later }
def TreePlaysCardSaid : Prop := Claim7.holds Tryz.pinned (.plain (OpenSpec.ofChange treePlaysSpec)) treePlaysCard

/-- THE TIED CARD OF 'heraldlaw4.TreeEnds'. -/
def treeEndsCard : Claim7 := { stood := { row := treeEndsRow, standIns := [], harness := (true, "5cb52912b965ebdb9857b566f0b111212cb72f933a012b15fe95d9741acf3786"), looks := true }, kinds := [], alts := [], laidByText := true, laidKinds := [.data, .data, .data, .data, .data, .pinned], laidTests := true, laidLooks := .later }
def TreeEndsCardSaid : Prop := Claim7.holds Tryz.pinned (.plain (OpenSpec.ofChange treeEndsSpec)) treeEndsCard

/-- THE TIED CARD OF 'heraldlaw4.TreeParts'. -/
def treePartsCard : Claim7 := { stood := { row := treePartsRow, standIns := [], harness := (true, "5cb52912b965ebdb9857b566f0b111212cb72f933a012b15fe95d9741acf3786"), looks := true }, kinds := [], alts := [], laidByText := true, laidKinds := [.data, .data, .data, .data, .data, .pinned], laidTests := true, laidLooks := .later }
def TreePartsCardSaid : Prop := Claim7.holds Tryz.pinned (.plain (OpenSpec.ofChange treePartsSpec)) treePartsCard

/-- THE TIED CARD OF 'heraldlaw4.TreeNodes'. -/
def treeNodesCard : Claim7 := { stood := { row := treeNodesRow, standIns := [], harness := (true, "5cb52912b965ebdb9857b566f0b111212cb72f933a012b15fe95d9741acf3786"), looks := true }, kinds := [], alts := [], laidByText := true, laidKinds := [.data, .data, .data, .data, .data, .pinned], laidTests := true, laidLooks := .later }
def TreeNodesCardSaid : Prop := Claim7.holds Tryz.pinned (.plain (OpenSpec.ofChange treeNodesSpec)) treeNodesCard

/-- THE TIED CARD OF 'heraldlaw4.TreeGoes'. -/
def treeGoesCard : Claim7 := { stood := { row := treeGoesRow, standIns := [], harness := (true, "5cb52912b965ebdb9857b566f0b111212cb72f933a012b15fe95d9741acf3786"), looks := true }, kinds := [], alts := [], laidByText := true, laidKinds := [.data, .data, .data, .data, .data, .pinned], laidTests := true, laidLooks := .later }
def TreeGoesCardSaid : Prop := Claim7.holds Tryz.pinned (.plain (OpenSpec.ofChange treeGoesSpec)) treeGoesCard

/-- THE TIED CARD OF 'heraldlaw4.TreeLoads'. -/
def treeLoadsCard : Claim7 := { stood := { row := treeLoadsRow, standIns := [], harness := (true, "5cb52912b965ebdb9857b566f0b111212cb72f933a012b15fe95d9741acf3786"), looks := true }, kinds := [], alts := [], laidByText := true, laidKinds := [.data, .data, .data, .data, .data, .pinned], laidTests := true, laidLooks := .later }
def TreeLoadsCardSaid : Prop := Claim7.holds Tryz.pinned (.plain (OpenSpec.ofChange treeLoadsSpec)) treeLoadsCard

/-- THE TIED CARD OF 'heraldlaw4.TreeTwo'. -/
def treeTwoCard : Claim7 := { stood := { row := treeTwoRow, standIns := [], harness := (true, "5cb52912b965ebdb9857b566f0b111212cb72f933a012b15fe95d9741acf3786"), looks := true }, kinds := [], alts := [], laidByText := true, laidKinds := [.data, .data, .data, .data, .data, .pinned], laidTests := true, laidLooks := .later }
def TreeTwoCardSaid : Prop := Claim7.holds Tryz.pinned (.plain (OpenSpec.ofChange treeTwoSpec)) treeTwoCard

/-- THE TIED CARD OF 'heraldlaw4.TreeNothing'. -/
def treeNothingCard : Claim7 := { stood := { row := treeNothingRow, standIns := [], harness := (true, "5cb52912b965ebdb9857b566f0b111212cb72f933a012b15fe95d9741acf3786"), looks := true }, kinds := [], alts := [], laidByText := true, laidKinds := [.data, .data, .data, .data, .data, .pinned], laidTests := true, laidLooks := .later }
def TreeNothingCardSaid : Prop := Claim7.holds Tryz.pinned (.plain (OpenSpec.ofChange treeNothingSpec)) treeNothingCard

/-- THE TIED CARD OF 'heraldlaw8.StateFreezes'. -/
def stateFreezesCard : Claim7 := { stood := { row := stateFreezesRow, standIns := [], harness := (true, "5cb52912b965ebdb9857b566f0b111212cb72f933a012b15fe95d9741acf3786"), looks := true }, kinds := [], alts := [], laidByText := true, laidKinds := [.data, .data, .data, .data, .data, .pinned], laidTests := true, laidLooks := .later }
def StateFreezesCardSaid : Prop := Claim7.holds Tryz.pinned (.plain (OpenSpec.ofChange stateFreezesSpec)) stateFreezesCard

/-- THE TIED CARD OF 'heraldlaw8.StateAlike'. -/
def stateAlikeCard : Claim7 := { stood := { row := stateAlikeRow, standIns := [], harness := (true, "5cb52912b965ebdb9857b566f0b111212cb72f933a012b15fe95d9741acf3786"), looks := true }, kinds := [], alts := [], laidByText := true, laidKinds := [.data, .data, .data, .data, .data, .pinned], laidTests := true, laidLooks := .later }
def StateAlikeCardSaid : Prop := Claim7.holds Tryz.pinned (.plain (OpenSpec.ofChange stateAlikeSpec)) stateAlikeCard

/-- THE SECOND FORM's CARD OF 'heraldlaw4.TreeLoaded'. -/
def treeLoadedUptoCard : Claim7 := { stood := { row := treeLoadedUptoRow, standIns := [], harness := (true, "5cb52912b965ebdb9857b566f0b111212cb72f933a012b15fe95d9741acf3786"), looks := true }, kinds := [], alts := [], laidByText := true, laidKinds := [.data, .data, .data, .data, .data, .pinned], laidTests := true, laidLooks := .later }
def TreeLoadedUptoCardSaid : Prop := Claim7.holds Tryz.pinned (.plain (OpenSpec.upto treeLoadedSpec)) treeLoadedUptoCard

/-- THE SECOND FORM's CARD OF 'heraldlaw4.TreeTells'. -/
def treeTellsUptoCard : Claim7 := { stood := { row := treeTellsUptoRow, standIns := [], harness := (true, "5cb52912b965ebdb9857b566f0b111212cb72f933a012b15fe95d9741acf3786"), looks := true }, kinds := [], alts := [], laidByText := true, laidKinds := [.data, .data, .data, .data, .data, .pinned], laidTests := true, laidLooks := .later }
def TreeTellsUptoCardSaid : Prop := Claim7.holds Tryz.pinned (.plain (OpenSpec.upto treeTellsSpec)) treeTellsUptoCard

/-- THE SECOND FORM's CARD OF 'heraldlaw4.TreePart'. -/
def treePartUptoCard : Claim7 := { stood := { row := treePartUptoRow, standIns := [], harness := (true, "5cb52912b965ebdb9857b566f0b111212cb72f933a012b15fe95d9741acf3786"), looks := true }, kinds := [], alts := [], laidByText := true, laidKinds := [.data, .data, .data, .data, .data, .pinned], laidTests := true, laidLooks := .later }
def TreePartUptoCardSaid : Prop := Claim7.holds Tryz.pinned (.plain (OpenSpec.upto treePartSpec)) treePartUptoCard

/-- THE SECOND FORM's CARD OF 'heraldlaw4.TreeOwn'. -/
def treeOwnUptoCard : Claim7 := { stood := { row := treeOwnUptoRow, standIns := [], harness := (true, "5cb52912b965ebdb9857b566f0b111212cb72f933a012b15fe95d9741acf3786"), looks := true }, kinds := [], alts := [], laidByText := true, laidKinds := [.data, .data, .data, .data, .data, .pinned], laidTests := true, laidLooks := .later }
def TreeOwnUptoCardSaid : Prop := Claim7.holds Tryz.pinned (.plain (OpenSpec.upto treeOwnSpec)) treeOwnUptoCard

/-- THE SECOND FORM's CARD OF 'heraldlaw5.ShotTakes'. -/
def shotTakesUptoCard : Claim7 := { stood := { row := shotTakesUptoRow, standIns := [], harness := (true, "5cb52912b965ebdb9857b566f0b111212cb72f933a012b15fe95d9741acf3786"), looks := true }, kinds := [], alts := [], laidByText := true, laidKinds := [.data, .data, .data, .data, .data, .pinned], laidTests := true, laidLooks := .later }
def ShotTakesUptoCardSaid : Prop := Claim7.holds Tryz.pinned (.plain (OpenSpec.upto shotTakesSpec)) shotTakesUptoCard

/-- THE SECOND FORM's CARD OF 'heraldlaw4.TreePlays'. -/
def treePlaysUptoCard : Claim7 := { stood := { row := treePlaysUptoRow, standIns := [], harness := (true, "5cb52912b965ebdb9857b566f0b111212cb72f933a012b15fe95d9741acf3786"), looks := true }, kinds := [], alts := [], laidByText := true, laidKinds := [.data, .data, .data, .data, .data, .pinned], laidTests := true, laidLooks := .later }
def TreePlaysUptoCardSaid : Prop := Claim7.holds Tryz.pinned (.plain (OpenSpec.upto treePlaysSpec)) treePlaysUptoCard

/-- THE SECOND FORM's CARD OF 'heraldlaw4.TreeEnds'. -/
def treeEndsUptoCard : Claim7 := { stood := { row := treeEndsUptoRow, standIns := [], harness := (true, "5cb52912b965ebdb9857b566f0b111212cb72f933a012b15fe95d9741acf3786"), looks := true }, kinds := [], alts := [], laidByText := true, laidKinds := [.data, .data, .data, .data, .data, .pinned], laidTests := true, laidLooks := .later }
def TreeEndsUptoCardSaid : Prop := Claim7.holds Tryz.pinned (.plain (OpenSpec.upto treeEndsSpec)) treeEndsUptoCard

/-- THE SECOND FORM's CARD OF 'heraldlaw4.TreeParts'. -/
def treePartsUptoCard : Claim7 := { stood := { row := treePartsUptoRow, standIns := [], harness := (true, "5cb52912b965ebdb9857b566f0b111212cb72f933a012b15fe95d9741acf3786"), looks := true }, kinds := [], alts := [], laidByText := true, laidKinds := [.data, .data, .data, .data, .data, .pinned], laidTests := true, laidLooks := .later }
def TreePartsUptoCardSaid : Prop := Claim7.holds Tryz.pinned (.plain (OpenSpec.upto treePartsSpec)) treePartsUptoCard

/-- THE SECOND FORM's CARD OF 'heraldlaw4.TreeNodes'. -/
def treeNodesUptoCard : Claim7 := { stood := { row := treeNodesUptoRow, standIns := [], harness := (true, "5cb52912b965ebdb9857b566f0b111212cb72f933a012b15fe95d9741acf3786"), looks := true }, kinds := [], alts := [], laidByText := true, laidKinds := [.data, .data, .data, .data, .data, .pinned], laidTests := true, laidLooks := .later }
def TreeNodesUptoCardSaid : Prop := Claim7.holds Tryz.pinned (.plain (OpenSpec.upto treeNodesSpec)) treeNodesUptoCard

/-- THE SECOND FORM's CARD OF 'heraldlaw4.TreeGoes'. -/
def treeGoesUptoCard : Claim7 := { stood := { row := treeGoesUptoRow, standIns := [], harness := (true, "5cb52912b965ebdb9857b566f0b111212cb72f933a012b15fe95d9741acf3786"), looks := true }, kinds := [], alts := [], laidByText := true, laidKinds := [.data, .data, .data, .data, .data, .pinned], laidTests := true, laidLooks := .later }
def TreeGoesUptoCardSaid : Prop := Claim7.holds Tryz.pinned (.plain (OpenSpec.upto treeGoesSpec)) treeGoesUptoCard

/-- THE SECOND FORM's CARD OF 'heraldlaw4.TreeLoads'. -/
def treeLoadsUptoCard : Claim7 := { stood := { row := treeLoadsUptoRow, standIns := [], harness := (true, "5cb52912b965ebdb9857b566f0b111212cb72f933a012b15fe95d9741acf3786"), looks := true }, kinds := [], alts := [], laidByText := true, laidKinds := [.data, .data, .data, .data, .data, .pinned], laidTests := true, laidLooks := .later }
def TreeLoadsUptoCardSaid : Prop := Claim7.holds Tryz.pinned (.plain (OpenSpec.upto treeLoadsSpec)) treeLoadsUptoCard

/-- THE SECOND FORM's CARD OF 'heraldlaw4.TreeTwo'. -/
def treeTwoUptoCard : Claim7 := { stood := { row := treeTwoUptoRow, standIns := [], harness := (true, "5cb52912b965ebdb9857b566f0b111212cb72f933a012b15fe95d9741acf3786"), looks := true }, kinds := [], alts := [], laidByText := true, laidKinds := [.data, .data, .data, .data, .data, .pinned], laidTests := true, laidLooks := .later }
def TreeTwoUptoCardSaid : Prop := Claim7.holds Tryz.pinned (.plain (OpenSpec.upto treeTwoSpec)) treeTwoUptoCard

/-- THE SECOND FORM's CARD OF 'heraldlaw4.TreeNothing'. -/
def treeNothingUptoCard : Claim7 := { stood := { row := treeNothingUptoRow, standIns := [], harness := (true, "5cb52912b965ebdb9857b566f0b111212cb72f933a012b15fe95d9741acf3786"), looks := true }, kinds := [], alts := [], laidByText := true, laidKinds := [.data, .data, .data, .data, .data, .pinned], laidTests := true, laidLooks := .later }
def TreeNothingUptoCardSaid : Prop := Claim7.holds Tryz.pinned (.plain (OpenSpec.upto treeNothingSpec)) treeNothingUptoCard

/-- THE SECOND FORM's CARD OF 'heraldlaw8.StateFreezes'. -/
def stateFreezesUptoCard : Claim7 := { stood := { row := stateFreezesUptoRow, standIns := [], harness := (true, "5cb52912b965ebdb9857b566f0b111212cb72f933a012b15fe95d9741acf3786"), looks := true }, kinds := [], alts := [], laidByText := true, laidKinds := [.data, .data, .data, .data, .data, .pinned], laidTests := true, laidLooks := .later }
def StateFreezesUptoCardSaid : Prop := Claim7.holds Tryz.pinned (.plain (OpenSpec.upto stateFreezesSpec)) stateFreezesUptoCard

/-- THE SECOND FORM's CARD OF 'heraldlaw8.StateAlike'. -/
def stateAlikeUptoCard : Claim7 := { stood := { row := stateAlikeUptoRow, standIns := [], harness := (true, "5cb52912b965ebdb9857b566f0b111212cb72f933a012b15fe95d9741acf3786"), looks := true }, kinds := [], alts := [], laidByText := true, laidKinds := [.data, .data, .data, .data, .data, .pinned], laidTests := true, laidLooks := .later }
def StateAlikeUptoCardSaid : Prop := Claim7.holds Tryz.pinned (.plain (OpenSpec.upto stateAlikeSpec)) stateAlikeUptoCard
end Rows
end Go.Proofs.YtpmlfpmedbccaaaGreatDoor
