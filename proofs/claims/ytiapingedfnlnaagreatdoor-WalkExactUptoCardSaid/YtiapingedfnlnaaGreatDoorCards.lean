/-
  DERIVED. GIVEN WITH THE SEED: THE CARDS: each row of YtiapingedfnlnaaGreatDoorRows.lean that lists a variable, with what it lists TIED to the program's text (the seventh form; the later family's looks); each row that meets fmt, with fmt's text TOLD by the authors' own Lean function (tested against real Go, not proved from fmt's source: count such statements apart). THE CARD IS WHAT COUNTS. Prove the row's statement (the work); the ties are given (YtiapingedfnlnaaGreatDoorTie.lean); close each card by the builder's one call (the guide's Derived/Test/ToyasCard.lean, 'card_holds'). Laid BY PROGRAM, IN A SANDBOX (cutbox-door.mjs). By AI agents, Wed Nov 11 2026. No macro, syntax, notation, axiom, sorry.
-/
import Derived.Test.YtiapingedfnlnaaGreatDoorRows
import GoSem.ClaimSeven
namespace Go.Proofs.YtiapingedfnlnaaGreatDoor
namespace Rows

/-- THE TIED CARD OF 'bolelaw15.DirPlain'. -/
def dirPlainCard : Claim7 := { stood := { row := dirPlainRow, standIns := [], harness := (true, "e9c02349ae27f36d8166c839cf9dc8ab15d57e199032b6d51aaeb405057eb89b"), looks := false }, kinds := [], alts := [], laidByText := true, laidKinds := [.data], laidTests := true, laidLooks := .later }
def DirPlainCardSaid : Prop := Claim7.holds Tryz.pinned (.plain (OpenSpec.ofChange dirPlainSpec)) dirPlainCard

/-- THE TIED CARD OF 'bolelaw16.WalkNames'. -/
def walkNamesCard : Claim7 := { stood := { row := walkNamesRow, standIns := [], harness := (true, "e9c02349ae27f36d8166c839cf9dc8ab15d57e199032b6d51aaeb405057eb89b"), looks := false }, kinds := [], alts := [], laidByText := true, laidKinds := [.data], laidTests := true, laidLooks := .later }
def WalkNamesCardSaid : Prop := Claim7.holds Tryz.pinned (.plain (OpenSpec.ofChange walkNamesSpec)) walkNamesCard

/-- THE TIED CARD OF 'bolelaw16.WalkThrough'. -/
def walkThroughCard : Claim7 := { stood := { row := walkThroughRow, standIns := [], harness := (true, "e9c02349ae27f36d8166c839cf9dc8ab15d57e199032b6d51aaeb405057eb89b"), looks := false }, kinds := [], alts := [], laidByText := true, laidKinds := [.data], laidTests := true, laidLooks := .later }
def WalkThroughCardSaid : Prop := Claim7.holds Tryz.pinned (.plain (OpenSpec.ofChange walkThroughSpec)) walkThroughCard

/-- THE TIED CARD OF 'bolelaw16.WalkHeights'. -/
def walkHeightsCard : Claim7 := { stood := { row := walkHeightsRow, standIns := [], harness := (true, "e9c02349ae27f36d8166c839cf9dc8ab15d57e199032b6d51aaeb405057eb89b"), looks := false }, kinds := [], alts := [], laidByText := true, laidKinds := [.data], laidTests := true, laidLooks := .later }
def WalkHeightsCardSaid : Prop := Claim7.holds Tryz.pinned (.plain (OpenSpec.ofChange walkHeightsSpec)) walkHeightsCard

/-- THE TIED CARD OF 'bolelaw16.WalkOwn'. -/
def walkOwnCard : Claim7 := { stood := { row := walkOwnRow, standIns := [], harness := (true, "e9c02349ae27f36d8166c839cf9dc8ab15d57e199032b6d51aaeb405057eb89b"), looks := false }, kinds := [], alts := [], laidByText := true, laidKinds := [.data], laidTests := true, laidLooks := .later }
def WalkOwnCardSaid : Prop := Claim7.holds Tryz.pinned (.plain (OpenSpec.ofChange walkOwnSpec)) walkOwnCard

/-- THE TIED CARD OF 'bolelaw16.WalkExact'. -/
def walkExactCard : Claim7 := { stood := { row := walkExactRow, standIns := [], harness := (true, "e9c02349ae27f36d8166c839cf9dc8ab15d57e199032b6d51aaeb405057eb89b"), looks := false }, kinds := [], alts := [], laidByText := true, laidKinds := [.data], laidTests := true, laidLooks := .later }
def WalkExactCardSaid : Prop := Claim7.holds Tryz.pinned (.plain (OpenSpec.ofChange walkExactSpec)) walkExactCard

/-- THE TIED CARD OF 'bolelaw16.WalkTree'. -/
def walkTreeCard : Claim7 := { stood := { row := walkTreeRow, standIns := [], harness := (true, "e9c02349ae27f36d8166c839cf9dc8ab15d57e199032b6d51aaeb405057eb89b"), looks := false }, kinds := [], alts := [], laidByText := true, laidKinds := [.data], laidTests := true, laidLooks := .later }
def WalkTreeCardSaid : Prop := Claim7.holds Tryz.pinned (.plain (OpenSpec.ofChange walkTreeSpec)) walkTreeCard

/-- THE TIED CARD OF 'bolelaw15.DirFull'. -/
def dirFullCard : Claim7 := { stood := { row := dirFullRow, standIns := [], harness := (true, "e9c02349ae27f36d8166c839cf9dc8ab15d57e199032b6d51aaeb405057eb89b"), looks := false }, kinds := [], alts := [], laidByText := true, laidKinds := [.data], laidTests := true, laidLooks := .later }
def DirFullCardSaid : Prop := Claim7.holds Tryz.pinned (.plain (OpenSpec.ofChange dirFullSpec)) dirFullCard

/-- THE TIED CARD OF 'bolelaw15.DirNames'. -/
def dirNamesCard : Claim7 := { stood := { row := dirNamesRow, standIns := [], harness := (true, "e9c02349ae27f36d8166c839cf9dc8ab15d57e199032b6d51aaeb405057eb89b"), looks := false }, kinds := [], alts := [], laidByText := true, laidKinds := [.data], laidTests := true, laidLooks := .later }
def DirNamesCardSaid : Prop := Claim7.holds Tryz.pinned (.plain (OpenSpec.ofChange dirNamesSpec)) dirNamesCard

/-- THE TIED CARD OF 'bolelaw15.DirPlays'. -/
def dirPlaysCard : Claim7 := { stood := { row := dirPlaysRow, standIns := [], harness := (true, "e9c02349ae27f36d8166c839cf9dc8ab15d57e199032b6d51aaeb405057eb89b"), looks := false }, kinds := [], alts := [], laidByText := true, laidKinds := [.data, .data], laidTests := true, laidLooks := .later }
def DirPlaysCardSaid : Prop := Claim7.holds Tryz.pinned (.plain (OpenSpec.ofChange dirPlaysSpec)) dirPlaysCard

/-- THE SECOND FORM's CARD OF 'bolelaw15.DirPlain'. -/
def dirPlainUptoCard : Claim7 := { stood := { row := dirPlainUptoRow, standIns := [], harness := (true, "e9c02349ae27f36d8166c839cf9dc8ab15d57e199032b6d51aaeb405057eb89b"), looks := false }, kinds := [], alts := [], laidByText := true, laidKinds := [.data], laidTests := true, laidLooks := .later }
def DirPlainUptoCardSaid : Prop := Claim7.holds Tryz.pinned (.plain (OpenSpec.upto dirPlainSpec)) dirPlainUptoCard

/-- THE SECOND FORM's CARD OF 'bolelaw16.WalkNames'. -/
def walkNamesUptoCard : Claim7 := { stood := { row := walkNamesUptoRow, standIns := [], harness := (true, "e9c02349ae27f36d8166c839cf9dc8ab15d57e199032b6d51aaeb405057eb89b"), looks := false }, kinds := [], alts := [], laidByText := true, laidKinds := [.data], laidTests := true, laidLooks := .later }
def WalkNamesUptoCardSaid : Prop := Claim7.holds Tryz.pinned (.plain (OpenSpec.upto walkNamesSpec)) walkNamesUptoCard

/-- THE SECOND FORM's CARD OF 'bolelaw16.WalkThrough'. -/
def walkThroughUptoCard : Claim7 := { stood := { row := walkThroughUptoRow, standIns := [], harness := (true, "e9c02349ae27f36d8166c839cf9dc8ab15d57e199032b6d51aaeb405057eb89b"), looks := false }, kinds := [], alts := [], laidByText := true, laidKinds := [.data], laidTests := true, laidLooks := .later }
def WalkThroughUptoCardSaid : Prop := Claim7.holds Tryz.pinned (.plain (OpenSpec.upto walkThroughSpec)) walkThroughUptoCard

/-- THE SECOND FORM's CARD OF 'bolelaw16.WalkHeights'. -/
def walkHeightsUptoCard : Claim7 := { stood := { row := walkHeightsUptoRow, standIns := [], harness := (true, "e9c02349ae27f36d8166c839cf9dc8ab15d57e199032b6d51aaeb405057eb89b"), looks := false }, kinds := [], alts := [], laidByText := true, laidKinds := [.data], laidTests := true, laidLooks := .later }
def WalkHeightsUptoCardSaid : Prop := Claim7.holds Tryz.pinned (.plain (OpenSpec.upto walkHeightsSpec)) walkHeightsUptoCard

/-- THE SECOND FORM's CARD OF 'bolelaw16.WalkOwn'. -/
def walkOwnUptoCard : Claim7 := { stood := { row := walkOwnUptoRow, standIns := [], harness := (true, "e9c02349ae27f36d8166c839cf9dc8ab15d57e199032b6d51aaeb405057eb89b"), looks := false }, kinds := [], alts := [], laidByText := true, laidKinds := [.data], laidTests := true, laidLooks := .later }
def WalkOwnUptoCardSaid : Prop := Claim7.holds Tryz.pinned (.plain (OpenSpec.upto walkOwnSpec)) walkOwnUptoCard

/-- THE SECOND FORM's CARD OF 'bolelaw16.WalkExact'. -/
def walkExactUptoCard : Claim7 := { stood := { row := walkExactUptoRow, standIns := [], harness := (true, "e9c02349ae27f36d8166c839cf9dc8ab15d57e199032b6d51aaeb405057eb89b"), looks := false }, kinds := [], alts := [], laidByText := true, laidKinds := [.data], laidTests := true, laidLooks := .later }
def WalkExactUptoCardSaid : Prop := Claim7.holds Tryz.pinned (.plain (OpenSpec.upto walkExactSpec)) walkExactUptoCard

/-- THE SECOND FORM's CARD OF 'bolelaw16.WalkTree'. -/
def walkTreeUptoCard : Claim7 := { stood := { row := walkTreeUptoRow, standIns := [], harness := (true, "e9c02349ae27f36d8166c839cf9dc8ab15d57e199032b6d51aaeb405057eb89b"), looks := false }, kinds := [], alts := [], laidByText := true, laidKinds := [.data], laidTests := true, laidLooks := .later }
def WalkTreeUptoCardSaid : Prop := Claim7.holds Tryz.pinned (.plain (OpenSpec.upto walkTreeSpec)) walkTreeUptoCard

/-- THE SECOND FORM's CARD OF 'bolelaw15.DirFull'. -/
def dirFullUptoCard : Claim7 := { stood := { row := dirFullUptoRow, standIns := [], harness := (true, "e9c02349ae27f36d8166c839cf9dc8ab15d57e199032b6d51aaeb405057eb89b"), looks := false }, kinds := [], alts := [], laidByText := true, laidKinds := [.data], laidTests := true, laidLooks := .later }
def DirFullUptoCardSaid : Prop := Claim7.holds Tryz.pinned (.plain (OpenSpec.upto dirFullSpec)) dirFullUptoCard

/-- THE SECOND FORM's CARD OF 'bolelaw15.DirNames'. -/
def dirNamesUptoCard : Claim7 := { stood := { row := dirNamesUptoRow, standIns := [], harness := (true, "e9c02349ae27f36d8166c839cf9dc8ab15d57e199032b6d51aaeb405057eb89b"), looks := false }, kinds := [], alts := [], laidByText := true, laidKinds := [.data], laidTests := true, laidLooks := .later }
def DirNamesUptoCardSaid : Prop := Claim7.holds Tryz.pinned (.plain (OpenSpec.upto dirNamesSpec)) dirNamesUptoCard

/-- THE SECOND FORM's CARD OF 'bolelaw15.DirPlays'. -/
def dirPlaysUptoCard : Claim7 := { stood := { row := dirPlaysUptoRow, standIns := [], harness := (true, "e9c02349ae27f36d8166c839cf9dc8ab15d57e199032b6d51aaeb405057eb89b"), looks := false }, kinds := [], alts := [], laidByText := true, laidKinds := [.data, .data], laidTests := true, laidLooks := .later }
def DirPlaysUptoCardSaid : Prop := Claim7.holds Tryz.pinned (.plain (OpenSpec.upto dirPlaysSpec)) dirPlaysUptoCard
end Rows
end Go.Proofs.YtiapingedfnlnaaGreatDoor
