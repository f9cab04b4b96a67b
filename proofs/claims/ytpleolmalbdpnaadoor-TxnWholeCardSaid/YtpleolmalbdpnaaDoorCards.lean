/-
  DERIVED. GIVEN WITH THE SEED: THE CARDS: each row of YtpleolmalbdpnaaDoorRows.lean that lists a variable, with what it lists TIED to the program's text (the seventh form; the later family's looks); each row that meets fmt, with fmt's text TOLD by the authors' own Lean function (tested against real Go, not proved from fmt's source: count such statements apart). THE CARD IS WHAT COUNTS. Prove the row's statement (the work); the ties are given (YtpleolmalbdpnaaDoorTie.lean); close each card by the builder's one call (the guide's Derived/Test/ToyasCard.lean, 'card_holds'). Laid BY PROGRAM, IN A SANDBOX (cutbox-door.mjs). By AI agents, Wed Nov 11 2026. No macro, syntax, notation, axiom, sorry.
-/
import Derived.Test.YtpleolmalbdpnaaDoorRows
import GoSem.ClaimSeven
namespace Go.Proofs.YtpleolmalbdpnaaDoor
namespace Rows

/-- THE TIED CARD OF 'bolelaw05.WalKeeps'. -/
def walKeepsCard : Claim7 := { stood := { row := walKeepsRow, standIns := [], harness := (true, "e040c3e26048b70d2afd57cfbeaeac58297b362eb3d68221991abb4976df8424"), looks := true }, kinds := [], alts := [], laidByText := true, laidKinds := [.data, .data], laidTests := true, laidLooks := .later }
def WalKeepsCardSaid : Prop := Claim7.holds Tryd.pinned (.plain (OpenSpec.ofChange walKeepsSpec)) walKeepsCard

/-- THE TIED CARD OF 'bolelaw05.WalHostile'. -/
def walHostileCard : Claim7 := { stood := { row := walHostileRow, standIns := [], harness := (true, "e040c3e26048b70d2afd57cfbeaeac58297b362eb3d68221991abb4976df8424"), looks := true }, kinds := [], alts := [], laidByText := true, laidKinds := [.data, .data], laidTests := true, laidLooks := .later }
def WalHostileCardSaid : Prop := Claim7.holds Tryd.pinned (.plain (OpenSpec.ofChange walHostileSpec)) walHostileCard

/-- THE TIED CARD OF 'bolelaw05.WalAtomic'. -/
def walAtomicCard : Claim7 := { stood := { row := walAtomicRow, standIns := [], harness := (true, "e040c3e26048b70d2afd57cfbeaeac58297b362eb3d68221991abb4976df8424"), looks := true }, kinds := [], alts := [], laidByText := true, laidKinds := [.data, .data], laidTests := true, laidLooks := .later }
def WalAtomicCardSaid : Prop := Claim7.holds Tryd.pinned (.plain (OpenSpec.ofChange walAtomicSpec)) walAtomicCard

/-- THE TIED CARD OF 'bolelaw06.TxnReads'. -/
def txnReadsCard : Claim7 := { stood := { row := txnReadsRow, standIns := [], harness := (true, "e040c3e26048b70d2afd57cfbeaeac58297b362eb3d68221991abb4976df8424"), looks := true }, kinds := [], alts := [], laidByText := true, laidKinds := [.data, .data], laidTests := true, laidLooks := .later }
def TxnReadsCardSaid : Prop := Claim7.holds Tryd.pinned (.plain (OpenSpec.ofChange txnReadsSpec)) txnReadsCard

/-- THE TIED CARD OF 'bolelaw06.TxnBack'. -/
def txnBackCard : Claim7 := { stood := { row := txnBackRow, standIns := [], harness := (true, "e040c3e26048b70d2afd57cfbeaeac58297b362eb3d68221991abb4976df8424"), looks := true }, kinds := [], alts := [], laidByText := true, laidKinds := [.data, .data], laidTests := true, laidLooks := .later }
def TxnBackCardSaid : Prop := Claim7.holds Tryd.pinned (.plain (OpenSpec.ofChange txnBackSpec)) txnBackCard

/-- THE TIED CARD OF 'bolelaw06.TxnLimit'. -/
def txnLimitCard : Claim7 := { stood := { row := txnLimitRow, standIns := [], harness := (true, "e040c3e26048b70d2afd57cfbeaeac58297b362eb3d68221991abb4976df8424"), looks := true }, kinds := [], alts := [], laidByText := true, laidKinds := [.data, .data], laidTests := true, laidLooks := .later }
def TxnLimitCardSaid : Prop := Claim7.holds Tryd.pinned (.plain (OpenSpec.ofChange txnLimitSpec)) txnLimitCard

/-- THE TIED CARD OF 'bolelaw06.TxnWhole'. -/
def txnWholeCard : Claim7 := { stood := { row := txnWholeRow, standIns := [], harness := (true, "e040c3e26048b70d2afd57cfbeaeac58297b362eb3d68221991abb4976df8424"), looks := true }, kinds := [], alts := [], laidByText := true, laidKinds := [.data, .data], laidTests := true, laidLooks := .later }
def TxnWholeCardSaid : Prop := Claim7.holds Tryd.pinned (.plain (OpenSpec.ofChange txnWholeSpec)) txnWholeCard

/-- THE SECOND FORM's CARD OF 'bolelaw05.WalKeeps'. -/
def walKeepsUptoCard : Claim7 := { stood := { row := walKeepsUptoRow, standIns := [], harness := (true, "e040c3e26048b70d2afd57cfbeaeac58297b362eb3d68221991abb4976df8424"), looks := true }, kinds := [], alts := [], laidByText := true, laidKinds := [.data, .data], laidTests := true, laidLooks := .later }
def WalKeepsUptoCardSaid : Prop := Claim7.holds Tryd.pinned (.plain (OpenSpec.upto walKeepsSpec)) walKeepsUptoCard

/-- THE SECOND FORM's CARD OF 'bolelaw05.WalHostile'. -/
def walHostileUptoCard : Claim7 := { stood := { row := walHostileUptoRow, standIns := [], harness := (true, "e040c3e26048b70d2afd57cfbeaeac58297b362eb3d68221991abb4976df8424"), looks := true }, kinds := [], alts := [], laidByText := true, laidKinds := [.data, .data], laidTests := true, laidLooks := .later }
def WalHostileUptoCardSaid : Prop := Claim7.holds Tryd.pinned (.plain (OpenSpec.upto walHostileSpec)) walHostileUptoCard

/-- THE SECOND FORM's CARD OF 'bolelaw05.WalAtomic'. -/
def walAtomicUptoCard : Claim7 := { stood := { row := walAtomicUptoRow, standIns := [], harness := (true, "e040c3e26048b70d2afd57cfbeaeac58297b362eb3d68221991abb4976df8424"), looks := true }, kinds := [], alts := [], laidByText := true, laidKinds := [.data, .data], laidTests := true, laidLooks := .later }
def WalAtomicUptoCardSaid : Prop := Claim7.holds Tryd.pinned (.plain (OpenSpec.upto walAtomicSpec)) walAtomicUptoCard

/-- THE SECOND FORM's CARD OF 'bolelaw06.TxnReads'. -/
def txnReadsUptoCard : Claim7 := { stood := { row := txnReadsUptoRow, standIns := [], harness := (true, "e040c3e26048b70d2afd57cfbeaeac58297b362eb3d68221991abb4976df8424"), looks := true }, kinds := [], alts := [], laidByText := true, laidKinds := [.data, .data], laidTests := true, laidLooks := .later }
def TxnReadsUptoCardSaid : Prop := Claim7.holds Tryd.pinned (.plain (OpenSpec.upto txnReadsSpec)) txnReadsUptoCard

/-- THE SECOND FORM's CARD OF 'bolelaw06.TxnBack'. -/
def txnBackUptoCard : Claim7 := { stood := { row := txnBackUptoRow, standIns := [], harness := (true, "e040c3e26048b70d2afd57cfbeaeac58297b362eb3d68221991abb4976df8424"), looks := true }, kinds := [], alts := [], laidByText := true, laidKinds := [.data, .data], laidTests := true, laidLooks := .later }
def TxnBackUptoCardSaid : Prop := Claim7.holds Tryd.pinned (.plain (OpenSpec.upto txnBackSpec)) txnBackUptoCard

/-- THE SECOND FORM's CARD OF 'bolelaw06.TxnLimit'. -/
def txnLimitUptoCard : Claim7 := { stood := { row := txnLimitUptoRow, standIns := [], harness := (true, "e040c3e26048b70d2afd57cfbeaeac58297b362eb3d68221991abb4976df8424"), looks := true }, kinds := [], alts := [], laidByText := true, laidKinds := [.data, .data], laidTests := true, laidLooks := .later }
def TxnLimitUptoCardSaid : Prop := Claim7.holds Tryd.pinned (.plain (OpenSpec.upto txnLimitSpec)) txnLimitUptoCard

/-- THE SECOND FORM's CARD OF 'bolelaw06.TxnWhole'. -/
def txnWholeUptoCard : Claim7 := { stood := { row := txnWholeUptoRow, standIns := [], harness := (true, "e040c3e26048b70d2afd57cfbeaeac58297b362eb3d68221991abb4976df8424"), looks := true }, kinds := [], alts := [], laidByText := true, laidKinds := [.data, .data], laidTests := true, laidLooks := .later }
def TxnWholeUptoCardSaid : Prop := Claim7.holds Tryd.pinned (.plain (OpenSpec.upto txnWholeSpec)) txnWholeUptoCard
end Rows
end Go.Proofs.YtpleolmalbdpnaaDoor
