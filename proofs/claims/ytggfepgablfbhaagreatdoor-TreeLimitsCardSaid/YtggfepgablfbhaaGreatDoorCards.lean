/-
  DERIVED. GIVEN WITH THE SEED: THE CARDS: each row of YtggfepgablfbhaaGreatDoorRows.lean that lists a variable, with what it lists TIED to the program's text (the seventh form; the later family's looks); each row that meets fmt, with fmt's text TOLD by the authors' own Lean function (tested against real Go, not proved from fmt's source: count such statements apart). THE CARD IS WHAT COUNTS. Prove the row's statement (the work); the ties are given (YtggfepgablfbhaaGreatDoorTie.lean); close each card by the builder's one call (the guide's Derived/Test/ToyasCard.lean, 'card_holds'). Laid BY PROGRAM, IN A SANDBOX (cutbox-door.mjs). By AI agents, Wed Nov 11 2026. No macro, syntax, notation, axiom, sorry.
-/
import Derived.Test.YtggfepgablfbhaaGreatDoorRows
import GoSem.ClaimSeven
namespace Go.Proofs.YtggfepgablfbhaaGreatDoor
namespace Rows

/-- THE TIED CARD OF 'dolmenlaw5.TreeBytes'. -/
def treeBytesCard : Claim7 := { stood := { row := treeBytesRow, standIns := [], harness := (true, "dade47d855540b9bc70f60497445b097dacd2310030133de0e5a42bc1b750edf"), looks := true }, kinds := [], alts := [], laidByText := true, laidKinds := [.data, .handle, .pinned], laidTests := true, laidLooks := .later }
def TreeBytesCardSaid : Prop := Claim7.holds Tryz.pinned (.plain (OpenSpec.ofChange treeBytesSpec)) treeBytesCard

/-- THE TIED CARD OF 'dolmenlaw5.TreeRenames'. -/
def treeRenamesCard : Claim7 := { stood := { row := treeRenamesRow, standIns := [], harness := (true, "dade47d855540b9bc70f60497445b097dacd2310030133de0e5a42bc1b750edf"), looks := true }, kinds := [], alts := [], laidByText := true, laidKinds := [.data, .handle, .pinned], laidTests := true, laidLooks := .later }
def TreeRenamesCardSaid : Prop := Claim7.holds Tryz.pinned (.plain (OpenSpec.ofChange treeRenamesSpec)) treeRenamesCard

/-- THE TIED CARD OF 'dolmenlaw5.TreeLimits'. -/
def treeLimitsCard : Claim7 := { stood := { row := treeLimitsRow, standIns := [], harness := (true, "dade47d855540b9bc70f60497445b097dacd2310030133de0e5a42bc1b750edf"), looks := true }, kinds := [], alts := [], laidByText := true, laidKinds := [.data, .handle, .pinned], laidTests := true, laidLooks := .later }
def TreeLimitsCardSaid : Prop := Claim7.holds Tryz.pinned (.plain (OpenSpec.ofChange treeLimitsSpec)) treeLimitsCard

/-- THE TIED CARD OF 'dolmenlaw5.TreePlays'. -/
def treePlaysCard : Claim7 := { stood := { row := treePlaysRow, standIns := [], harness := (true, "dade47d855540b9bc70f60497445b097dacd2310030133de0e5a42bc1b750edf"), looks := true }, kinds := [], alts := [], laidByText := true, laidKinds := [.data, .handle, .pinned], laidTests := true, laidLooks := .later }
def TreePlaysCardSaid : Prop := Claim7.holds Tryz.pinned (.plain (OpenSpec.ofChange treePlaysSpec)) treePlaysCard

/-- THE TIED CARD OF 'dolmenlaw5.TreeSound'. -/
def treeSoundCard : Claim7 := { stood := { row := treeSoundRow, standIns := [], harness := (true, "dade47d855540b9bc70f60497445b097dacd2310030133de0e5a42bc1b750edf"), looks := true }, kinds := [], alts := [], laidByText := true, laidKinds := [.data, .handle, .pinned], laidTests := true, laidLooks := .later }
def TreeSoundCardSaid : Prop := Claim7.holds Tryz.pinned (.plain (OpenSpec.ofChange treeSoundSpec)) treeSoundCard

/-- THE TIED CARD OF 'dolmenlaw5.TreeLinks'. -/
def treeLinksCard : Claim7 := { stood := { row := treeLinksRow, standIns := [], harness := (true, "dade47d855540b9bc70f60497445b097dacd2310030133de0e5a42bc1b750edf"), looks := true }, kinds := [], alts := [], laidByText := true, laidKinds := [.data, .handle, .pinned], laidTests := true, laidLooks := .later }
def TreeLinksCardSaid : Prop := Claim7.holds Tryz.pinned (.plain (OpenSpec.ofChange treeLinksSpec)) treeLinksCard

/-- THE TIED CARD OF 'dolmenlaw5.TreeMoves'. -/
def treeMovesCard : Claim7 := { stood := { row := treeMovesRow, standIns := [], harness := (true, "dade47d855540b9bc70f60497445b097dacd2310030133de0e5a42bc1b750edf"), looks := true }, kinds := [], alts := [], laidByText := true, laidKinds := [.data, .handle, .pinned], laidTests := true, laidLooks := .later }
def TreeMovesCardSaid : Prop := Claim7.holds Tryz.pinned (.plain (OpenSpec.ofChange treeMovesSpec)) treeMovesCard

/-- THE TIED CARD OF 'dolmenlaw5.TreeStutters'. -/
def treeStuttersCard : Claim7 := { stood := { row := treeStuttersRow, standIns := [], harness := (true, "dade47d855540b9bc70f60497445b097dacd2310030133de0e5a42bc1b750edf"), looks := true }, kinds := [], alts := [], laidByText := true, laidKinds := [.data, .handle, .pinned], laidTests := true, laidLooks := .later }
def TreeStuttersCardSaid : Prop := Claim7.holds Tryz.pinned (.plain (OpenSpec.ofChange treeStuttersSpec)) treeStuttersCard

/-- THE TIED CARD OF 'dolmenlaw5.TreeNothing'. -/
def treeNothingCard : Claim7 := { stood := { row := treeNothingRow, standIns := [], harness := (true, "dade47d855540b9bc70f60497445b097dacd2310030133de0e5a42bc1b750edf"), looks := true }, kinds := [], alts := [], laidByText := true, laidKinds := [.data, .handle, .pinned], laidTests := true, laidLooks := .later }
def TreeNothingCardSaid : Prop := Claim7.holds Tryz.pinned (.plain (OpenSpec.ofChange treeNothingSpec)) treeNothingCard

/-- THE TIED CARD OF 'dolmenlaw5.TreeCopies'. -/
def treeCopiesCard : Claim7 := { stood := { row := treeCopiesRow, standIns := [], harness := (true, "dade47d855540b9bc70f60497445b097dacd2310030133de0e5a42bc1b750edf"), looks := true }, kinds := [], alts := [], laidByText := true, laidKinds := [.data, .handle, .pinned], laidTests := true, laidLooks := .later }
def TreeCopiesCardSaid : Prop := Claim7.holds Tryz.pinned (.plain (OpenSpec.ofChange treeCopiesSpec)) treeCopiesCard

/-- THE SECOND FORM's CARD OF 'dolmenlaw5.TreeBytes'. -/
def treeBytesUptoCard : Claim7 := { stood := { row := treeBytesUptoRow, standIns := [], harness := (true, "dade47d855540b9bc70f60497445b097dacd2310030133de0e5a42bc1b750edf"), looks := true }, kinds := [], alts := [], laidByText := true, laidKinds := [.data, .handle, .pinned], laidTests := true, laidLooks := .later }
def TreeBytesUptoCardSaid : Prop := Claim7.holds Tryz.pinned (.plain (OpenSpec.upto treeBytesSpec)) treeBytesUptoCard

/-- THE SECOND FORM's CARD OF 'dolmenlaw5.TreeRenames'. -/
def treeRenamesUptoCard : Claim7 := { stood := { row := treeRenamesUptoRow, standIns := [], harness := (true, "dade47d855540b9bc70f60497445b097dacd2310030133de0e5a42bc1b750edf"), looks := true }, kinds := [], alts := [], laidByText := true, laidKinds := [.data, .handle, .pinned], laidTests := true, laidLooks := .later }
def TreeRenamesUptoCardSaid : Prop := Claim7.holds Tryz.pinned (.plain (OpenSpec.upto treeRenamesSpec)) treeRenamesUptoCard

/-- THE SECOND FORM's CARD OF 'dolmenlaw5.TreeLimits'. -/
def treeLimitsUptoCard : Claim7 := { stood := { row := treeLimitsUptoRow, standIns := [], harness := (true, "dade47d855540b9bc70f60497445b097dacd2310030133de0e5a42bc1b750edf"), looks := true }, kinds := [], alts := [], laidByText := true, laidKinds := [.data, .handle, .pinned], laidTests := true, laidLooks := .later }
def TreeLimitsUptoCardSaid : Prop := Claim7.holds Tryz.pinned (.plain (OpenSpec.upto treeLimitsSpec)) treeLimitsUptoCard

/-- THE SECOND FORM's CARD OF 'dolmenlaw5.TreePlays'. -/
def treePlaysUptoCard : Claim7 := { stood := { row := treePlaysUptoRow, standIns := [], harness := (true, "dade47d855540b9bc70f60497445b097dacd2310030133de0e5a42bc1b750edf"), looks := true }, kinds := [], alts := [], laidByText := true, laidKinds := [.data, .handle, .pinned], laidTests := true, laidLooks := .later }
def TreePlaysUptoCardSaid : Prop := Claim7.holds Tryz.pinned (.plain (OpenSpec.upto treePlaysSpec)) treePlaysUptoCard

/-- THE SECOND FORM's CARD OF 'dolmenlaw5.TreeSound'. -/
def treeSoundUptoCard : Claim7 := { stood := { row := treeSoundUptoRow, standIns := [], harness := (true, "dade47d855540b9bc70f60497445b097dacd2310030133de0e5a42bc1b750edf"), looks := true }, kinds := [], alts := [], laidByText := true, laidKinds := [.data, .handle, .pinned], laidTests := true, laidLooks := .later }
def TreeSoundUptoCardSaid : Prop := Claim7.holds Tryz.pinned (.plain (OpenSpec.upto treeSoundSpec)) treeSoundUptoCard

/-- THE SECOND FORM's CARD OF 'dolmenlaw5.TreeLinks'. -/
def treeLinksUptoCard : Claim7 := { stood := { row := treeLinksUptoRow, standIns := [], harness := (true, "dade47d855540b9bc70f60497445b097dacd2310030133de0e5a42bc1b750edf"), looks := true }, kinds := [], alts := [], laidByText := true, laidKinds := [.data, .handle, .pinned], laidTests := true, laidLooks := .later }
def TreeLinksUptoCardSaid : Prop := Claim7.holds Tryz.pinned (.plain (OpenSpec.upto treeLinksSpec)) treeLinksUptoCard

/-- THE SECOND FORM's CARD OF 'dolmenlaw5.TreeMoves'. -/
def treeMovesUptoCard : Claim7 := { stood := { row := treeMovesUptoRow, standIns := [], harness := (true, "dade47d855540b9bc70f60497445b097dacd2310030133de0e5a42bc1b750edf"), looks := true }, kinds := [], alts := [], laidByText := true, laidKinds := [.data, .handle, .pinned], laidTests := true, laidLooks := .later }
def TreeMovesUptoCardSaid : Prop := Claim7.holds Tryz.pinned (.plain (OpenSpec.upto treeMovesSpec)) treeMovesUptoCard

/-- THE SECOND FORM's CARD OF 'dolmenlaw5.TreeStutters'. -/
def treeStuttersUptoCard : Claim7 := { stood := { row := treeStuttersUptoRow, standIns := [], harness := (true, "dade47d855540b9bc70f60497445b097dacd2310030133de0e5a42bc1b750edf"), looks := true }, kinds := [], alts := [], laidByText := true, laidKinds := [.data, .handle, .pinned], laidTests := true, laidLooks := .later }
def TreeStuttersUptoCardSaid : Prop := Claim7.holds Tryz.pinned (.plain (OpenSpec.upto treeStuttersSpec)) treeStuttersUptoCard

/-- THE SECOND FORM's CARD OF 'dolmenlaw5.TreeNothing'. -/
def treeNothingUptoCard : Claim7 := { stood := { row := treeNothingUptoRow, standIns := [], harness := (true, "dade47d855540b9bc70f60497445b097dacd2310030133de0e5a42bc1b750edf"), looks := true }, kinds := [], alts := [], laidByText := true, laidKinds := [.data, .handle, .pinned], laidTests := true, laidLooks := .later }
def TreeNothingUptoCardSaid : Prop := Claim7.holds Tryz.pinned (.plain (OpenSpec.upto treeNothingSpec)) treeNothingUptoCard

/-- THE SECOND FORM's CARD OF 'dolmenlaw5.TreeCopies'. -/
def treeCopiesUptoCard : Claim7 := { stood := { row := treeCopiesUptoRow, standIns := [], harness := (true, "dade47d855540b9bc70f60497445b097dacd2310030133de0e5a42bc1b750edf"), looks := true }, kinds := [], alts := [], laidByText := true, laidKinds := [.data, .handle, .pinned], laidTests := true, laidLooks := .later }
def TreeCopiesUptoCardSaid : Prop := Claim7.holds Tryz.pinned (.plain (OpenSpec.upto treeCopiesSpec)) treeCopiesUptoCard
end Rows
end Go.Proofs.YtggfepgablfbhaaGreatDoor
