/-
  DERIVED. GIVEN WITH THE SEED: THE CARDS: each row of YtjdcbblgaoogmaaGreatDoorRows.lean that lists a variable, with what it lists TIED to the program's text (the seventh form; the later family's looks); each row that meets fmt, with fmt's text TOLD by the authors' own Lean function (tested against real Go, not proved from fmt's source: count such statements apart). THE CARD IS WHAT COUNTS. Prove the row's statement (the work); the ties are given (YtjdcbblgaoogmaaGreatDoorTie.lean); close each card by the builder's one call (the guide's Derived/Test/ToyasCard.lean, 'card_holds'). Laid BY PROGRAM, IN A SANDBOX (cutbox-door.mjs). By AI agents, Wed Nov 11 2026. No macro, syntax, notation, axiom, sorry.
-/
import Derived.Test.YtjdcbblgaoogmaaGreatDoorRows
import GoSem.ClaimSeven
namespace Go.Proofs.YtjdcbblgaoogmaaGreatDoor
namespace Rows

/-- THE TIED CARD OF 'bolelaw05.WalPlays'. -/
def walPlaysCard : Claim7 := { stood := { row := walPlaysRow, standIns := [], harness := (true, "e9d1480cef21f06bffefa874134bc0929d262d295ead417e03ca381092e7e6fd"), looks := true }, kinds := [], alts := [], laidByText := true, laidKinds := [.data, .data], laidTests := true, laidLooks := .later }
def WalPlaysCardSaid : Prop := Claim7.holds Tryz.pinned (.plain (OpenSpec.ofChange walPlaysSpec)) walPlaysCard

/-- THE TIED CARD OF 'bolelaw06.TxnPlays'. -/
def txnPlaysCard : Claim7 := { stood := { row := txnPlaysRow, standIns := [], harness := (true, "e9d1480cef21f06bffefa874134bc0929d262d295ead417e03ca381092e7e6fd"), looks := true }, kinds := [], alts := [], laidByText := true, laidKinds := [.data, .data], laidTests := true, laidLooks := .later }
def TxnPlaysCardSaid : Prop := Claim7.holds Tryz.pinned (.plain (OpenSpec.ofChange txnPlaysSpec)) txnPlaysCard

/-- THE TIED CARD OF 'bolelaw09.SpacePlays'. -/
def spacePlaysCard : Claim7 := { stood := { row := spacePlaysRow, standIns := [], harness := (true, "e9d1480cef21f06bffefa874134bc0929d262d295ead417e03ca381092e7e6fd"), looks := true }, kinds := [], alts := [], laidByText := true, laidKinds := [.data, .data], laidTests := true, laidLooks := .later }
def SpacePlaysCardSaid : Prop := Claim7.holds Tryz.pinned (.plain (OpenSpec.ofChange spacePlaysSpec)) spacePlaysCard

/-- THE TIED CARD OF 'bolelaw12.FilePlays'. -/
def filePlaysCard : Claim7 := { stood := { row := filePlaysRow, standIns := [], harness := (true, "e9d1480cef21f06bffefa874134bc0929d262d295ead417e03ca381092e7e6fd"), looks := true }, kinds := [], alts := [], laidByText := true, laidKinds := [.data, .data], laidTests := true, laidLooks := .later }
def FilePlaysCardSaid : Prop := Claim7.holds Tryz.pinned (.plain (OpenSpec.ofChange filePlaysSpec)) filePlaysCard

/-- THE SECOND FORM's CARD OF 'bolelaw05.WalPlays'. -/
def walPlaysUptoCard : Claim7 := { stood := { row := walPlaysUptoRow, standIns := [], harness := (true, "e9d1480cef21f06bffefa874134bc0929d262d295ead417e03ca381092e7e6fd"), looks := true }, kinds := [], alts := [], laidByText := true, laidKinds := [.data, .data], laidTests := true, laidLooks := .later }
def WalPlaysUptoCardSaid : Prop := Claim7.holds Tryz.pinned (.plain (OpenSpec.upto walPlaysSpec)) walPlaysUptoCard

/-- THE SECOND FORM's CARD OF 'bolelaw06.TxnPlays'. -/
def txnPlaysUptoCard : Claim7 := { stood := { row := txnPlaysUptoRow, standIns := [], harness := (true, "e9d1480cef21f06bffefa874134bc0929d262d295ead417e03ca381092e7e6fd"), looks := true }, kinds := [], alts := [], laidByText := true, laidKinds := [.data, .data], laidTests := true, laidLooks := .later }
def TxnPlaysUptoCardSaid : Prop := Claim7.holds Tryz.pinned (.plain (OpenSpec.upto txnPlaysSpec)) txnPlaysUptoCard

/-- THE SECOND FORM's CARD OF 'bolelaw09.SpacePlays'. -/
def spacePlaysUptoCard : Claim7 := { stood := { row := spacePlaysUptoRow, standIns := [], harness := (true, "e9d1480cef21f06bffefa874134bc0929d262d295ead417e03ca381092e7e6fd"), looks := true }, kinds := [], alts := [], laidByText := true, laidKinds := [.data, .data], laidTests := true, laidLooks := .later }
def SpacePlaysUptoCardSaid : Prop := Claim7.holds Tryz.pinned (.plain (OpenSpec.upto spacePlaysSpec)) spacePlaysUptoCard

/-- THE SECOND FORM's CARD OF 'bolelaw12.FilePlays'. -/
def filePlaysUptoCard : Claim7 := { stood := { row := filePlaysUptoRow, standIns := [], harness := (true, "e9d1480cef21f06bffefa874134bc0929d262d295ead417e03ca381092e7e6fd"), looks := true }, kinds := [], alts := [], laidByText := true, laidKinds := [.data, .data], laidTests := true, laidLooks := .later }
def FilePlaysUptoCardSaid : Prop := Claim7.holds Tryz.pinned (.plain (OpenSpec.upto filePlaysSpec)) filePlaysUptoCard
end Rows
end Go.Proofs.YtjdcbblgaoogmaaGreatDoor
