/-
  DERIVED. GIVEN WITH THE SEED: THE CARDS: each row of YtpmlfpmedbccaaaDoorRows.lean that lists a variable, with what it lists TIED to the program's text (the seventh form; the later family's looks); each row that meets fmt, with fmt's text TOLD by the authors' own Lean function (tested against real Go, not proved from fmt's source: count such statements apart). THE CARD IS WHAT COUNTS. Prove the row's statement (the work); the ties are given (YtpmlfpmedbccaaaDoorTie.lean); close each card by the builder's one call (the guide's Derived/Test/ToyasCard.lean, 'card_holds'). Laid BY PROGRAM, IN A SANDBOX (cutbox-door.mjs). By AI agents, Wed Nov 11 2026. No macro, syntax, notation, axiom, sorry.
-/
import Derived.Test.YtpmlfpmedbccaaaDoorRows
import GoSem.ClaimSeven
namespace Go.Proofs.YtpmlfpmedbccaaaDoor
namespace Rows

/-- THE TIED CARD OF 'heraldlaw4.TreeSound'. -/
def treeSoundCard : Claim7 := { stood := { row := treeSoundRow, standIns := [], harness := (true, "7ba753d5ce2c5d382ab5afb780aaaca041cebf7d31a744ebad3649adf3f8148e"), looks := true }, kinds := [], alts := [], laidByText := true, laidKinds := [.data, .data, .data, .data, .data, .pinned], laidTests := true, laidLooks := .later }
def TreeSoundCardSaid : Prop := Claim7.holds Tryd.pinned (.plain (OpenSpec.ofChange treeSoundSpec)) treeSoundCard

/-- THE TIED CARD OF 'heraldlaw4.TreeReads'. -/
def treeReadsCard : Claim7 := { stood := { row := treeReadsRow, standIns := [], harness := (true, "7ba753d5ce2c5d382ab5afb780aaaca041cebf7d31a744ebad3649adf3f8148e"), looks := true }, kinds := [], alts := [], laidByText := true, laidKinds := [.data, .data, .data, .data, .data, .pinned], laidTests := true, laidLooks := .later }
def TreeReadsCardSaid : Prop := Claim7.holds Tryd.pinned (.plain (OpenSpec.ofChange treeReadsSpec)) treeReadsCard

/-- THE TIED CARD OF 'heraldlaw4.TreeGone'. -/
def treeGoneCard : Claim7 := { stood := { row := treeGoneRow, standIns := [], harness := (true, "7ba753d5ce2c5d382ab5afb780aaaca041cebf7d31a744ebad3649adf3f8148e"), looks := true }, kinds := [], alts := [], laidByText := true, laidKinds := [.data, .data, .data, .data, .data, .pinned], laidTests := true, laidLooks := .later }
def TreeGoneCardSaid : Prop := Claim7.holds Tryd.pinned (.plain (OpenSpec.ofChange treeGoneSpec)) treeGoneCard

/-- THE TIED CARD OF 'heraldlaw4.TreeCounted'. -/
def treeCountedCard : Claim7 := { stood := { row := treeCountedRow, standIns := [], harness := (true, "7ba753d5ce2c5d382ab5afb780aaaca041cebf7d31a744ebad3649adf3f8148e"), looks := true }, kinds := [], alts := [], laidByText := true, laidKinds := [.data, .data, .data, .data, .data, .pinned], laidTests := true, laidLooks := .later }
def TreeCountedCardSaid : Prop := Claim7.holds Tryd.pinned (.plain (OpenSpec.ofChange treeCountedSpec)) treeCountedCard

/-- THE TIED CARD OF 'heraldlaw4.TreeAll'. -/
def treeAllCard : Claim7 := { stood := { row := treeAllRow, standIns := [], harness := (true, "7ba753d5ce2c5d382ab5afb780aaaca041cebf7d31a744ebad3649adf3f8148e"), looks := true }, kinds := [], alts := [], laidByText := true, laidKinds := [.data, .data, .data, .data, .data, .pinned], laidTests := true, laidLooks := .later }
def TreeAllCardSaid : Prop := Claim7.holds Tryd.pinned (.plain (OpenSpec.ofChange treeAllSpec)) treeAllCard

/-- THE SECOND FORM's CARD OF 'heraldlaw4.TreeSound'. -/
def treeSoundUptoCard : Claim7 := { stood := { row := treeSoundUptoRow, standIns := [], harness := (true, "7ba753d5ce2c5d382ab5afb780aaaca041cebf7d31a744ebad3649adf3f8148e"), looks := true }, kinds := [], alts := [], laidByText := true, laidKinds := [.data, .data, .data, .data, .data, .pinned], laidTests := true, laidLooks := .later }
def TreeSoundUptoCardSaid : Prop := Claim7.holds Tryd.pinned (.plain (OpenSpec.upto treeSoundSpec)) treeSoundUptoCard

/-- THE SECOND FORM's CARD OF 'heraldlaw4.TreeReads'. -/
def treeReadsUptoCard : Claim7 := { stood := { row := treeReadsUptoRow, standIns := [], harness := (true, "7ba753d5ce2c5d382ab5afb780aaaca041cebf7d31a744ebad3649adf3f8148e"), looks := true }, kinds := [], alts := [], laidByText := true, laidKinds := [.data, .data, .data, .data, .data, .pinned], laidTests := true, laidLooks := .later }
def TreeReadsUptoCardSaid : Prop := Claim7.holds Tryd.pinned (.plain (OpenSpec.upto treeReadsSpec)) treeReadsUptoCard

/-- THE SECOND FORM's CARD OF 'heraldlaw4.TreeGone'. -/
def treeGoneUptoCard : Claim7 := { stood := { row := treeGoneUptoRow, standIns := [], harness := (true, "7ba753d5ce2c5d382ab5afb780aaaca041cebf7d31a744ebad3649adf3f8148e"), looks := true }, kinds := [], alts := [], laidByText := true, laidKinds := [.data, .data, .data, .data, .data, .pinned], laidTests := true, laidLooks := .later }
def TreeGoneUptoCardSaid : Prop := Claim7.holds Tryd.pinned (.plain (OpenSpec.upto treeGoneSpec)) treeGoneUptoCard

/-- THE SECOND FORM's CARD OF 'heraldlaw4.TreeCounted'. -/
def treeCountedUptoCard : Claim7 := { stood := { row := treeCountedUptoRow, standIns := [], harness := (true, "7ba753d5ce2c5d382ab5afb780aaaca041cebf7d31a744ebad3649adf3f8148e"), looks := true }, kinds := [], alts := [], laidByText := true, laidKinds := [.data, .data, .data, .data, .data, .pinned], laidTests := true, laidLooks := .later }
def TreeCountedUptoCardSaid : Prop := Claim7.holds Tryd.pinned (.plain (OpenSpec.upto treeCountedSpec)) treeCountedUptoCard

/-- THE SECOND FORM's CARD OF 'heraldlaw4.TreeAll'. -/
def treeAllUptoCard : Claim7 := { stood := { row := treeAllUptoRow, standIns := [], harness := (true, "7ba753d5ce2c5d382ab5afb780aaaca041cebf7d31a744ebad3649adf3f8148e"), looks := true }, kinds := [], alts := [], laidByText := true, laidKinds := [.data, .data, .data, .data, .data, .pinned], laidTests := true, laidLooks := .later }
def TreeAllUptoCardSaid : Prop := Claim7.holds Tryd.pinned (.plain (OpenSpec.upto treeAllSpec)) treeAllUptoCard
end Rows
end Go.Proofs.YtpmlfpmedbccaaaDoor
