/-
  DERIVED. GIVEN WITH THE SEED: THE CARDS: each row of YtcdpakjhjmchhaaGreatDoorRows.lean that lists a variable, with what it lists TIED to the program's text (the seventh form; the later family's looks); each row that meets fmt, with fmt's text TOLD by the authors' own Lean function (tested against real Go, not proved from fmt's source: count such statements apart). THE CARD IS WHAT COUNTS. Prove the row's statement (the work); the ties are given (YtcdpakjhjmchhaaGreatDoorTie.lean); close each card by the builder's one call (the guide's Derived/Test/ToyasCard.lean, 'card_holds'). Laid BY PROGRAM, IN A SANDBOX (cutbox-door.mjs). By AI agents, Wed Nov 11 2026. No macro, syntax, notation, axiom, sorry.
-/
import Derived.Test.YtcdpakjhjmchhaaGreatDoorRows
import GoSem.ClaimSeven
namespace Go.Proofs.YtcdpakjhjmchhaaGreatDoor
namespace Rows

/-- THE TIED CARD OF 'bolelaw12.FileGives'. -/
def fileGivesCard : Claim7 := { stood := { row := fileGivesRow, standIns := [], harness := (true, "b80351eec088f2800fae7ae13fb281ab8564571843a33504ed636c2a0ac808f3"), looks := false }, kinds := [], alts := [], laidByText := true, laidKinds := [.data], laidTests := true, laidLooks := .later }
def FileGivesCardSaid : Prop := Claim7.holds Tryz.pinned (.plain (OpenSpec.ofChange fileGivesSpec)) fileGivesCard

/-- THE TIED CARD OF 'bolelaw10.BmapExact'. -/
def bmapExactCard : Claim7 := { stood := { row := bmapExactRow, standIns := [], harness := (true, "b80351eec088f2800fae7ae13fb281ab8564571843a33504ed636c2a0ac808f3"), looks := false }, kinds := [], alts := [], laidByText := true, laidKinds := [.data], laidTests := true, laidLooks := .later }
def BmapExactCardSaid : Prop := Claim7.holds Tryz.pinned (.plain (OpenSpec.ofChange bmapExactSpec)) bmapExactCard

/-- THE TIED CARD OF 'bolelaw10.BmapGrows'. -/
def bmapGrowsCard : Claim7 := { stood := { row := bmapGrowsRow, standIns := [], harness := (true, "b80351eec088f2800fae7ae13fb281ab8564571843a33504ed636c2a0ac808f3"), looks := false }, kinds := [], alts := [], laidByText := true, laidKinds := [.data], laidTests := true, laidLooks := .later }
def BmapGrowsCardSaid : Prop := Claim7.holds Tryz.pinned (.plain (OpenSpec.ofChange bmapGrowsSpec)) bmapGrowsCard

/-- THE TIED CARD OF 'bolelaw10.BmapCuts'. -/
def bmapCutsCard : Claim7 := { stood := { row := bmapCutsRow, standIns := [], harness := (true, "b80351eec088f2800fae7ae13fb281ab8564571843a33504ed636c2a0ac808f3"), looks := false }, kinds := [], alts := [], laidByText := true, laidKinds := [.data], laidTests := true, laidLooks := .later }
def BmapCutsCardSaid : Prop := Claim7.holds Tryz.pinned (.plain (OpenSpec.ofChange bmapCutsSpec)) bmapCutsCard

/-- THE TIED CARD OF 'bolelaw10.BmapFull'. -/
def bmapFullCard : Claim7 := { stood := { row := bmapFullRow, standIns := [], harness := (true, "b80351eec088f2800fae7ae13fb281ab8564571843a33504ed636c2a0ac808f3"), looks := false }, kinds := [], alts := [], laidByText := true, laidKinds := [.data], laidTests := true, laidLooks := .later }
def BmapFullCardSaid : Prop := Claim7.holds Tryz.pinned (.plain (OpenSpec.ofChange bmapFullSpec)) bmapFullCard

/-- THE TIED CARD OF 'bolelaw12.FileRefuses'. -/
def fileRefusesCard : Claim7 := { stood := { row := fileRefusesRow, standIns := [], harness := (true, "b80351eec088f2800fae7ae13fb281ab8564571843a33504ed636c2a0ac808f3"), looks := false }, kinds := [], alts := [], laidByText := true, laidKinds := [.data], laidTests := true, laidLooks := .later }
def FileRefusesCardSaid : Prop := Claim7.holds Tryz.pinned (.plain (OpenSpec.ofChange fileRefusesSpec)) fileRefusesCard

/-- THE TIED CARD OF 'bolelaw12.FilePlain'. -/
def filePlainCard : Claim7 := { stood := { row := filePlainRow, standIns := [], harness := (true, "b80351eec088f2800fae7ae13fb281ab8564571843a33504ed636c2a0ac808f3"), looks := false }, kinds := [], alts := [], laidByText := true, laidKinds := [.data], laidTests := true, laidLooks := .later }
def FilePlainCardSaid : Prop := Claim7.holds Tryz.pinned (.plain (OpenSpec.ofChange filePlainSpec)) filePlainCard

/-- THE SECOND FORM's CARD OF 'bolelaw12.FileGives'. -/
def fileGivesUptoCard : Claim7 := { stood := { row := fileGivesUptoRow, standIns := [], harness := (true, "b80351eec088f2800fae7ae13fb281ab8564571843a33504ed636c2a0ac808f3"), looks := false }, kinds := [], alts := [], laidByText := true, laidKinds := [.data], laidTests := true, laidLooks := .later }
def FileGivesUptoCardSaid : Prop := Claim7.holds Tryz.pinned (.plain (OpenSpec.upto fileGivesSpec)) fileGivesUptoCard

/-- THE SECOND FORM's CARD OF 'bolelaw10.BmapExact'. -/
def bmapExactUptoCard : Claim7 := { stood := { row := bmapExactUptoRow, standIns := [], harness := (true, "b80351eec088f2800fae7ae13fb281ab8564571843a33504ed636c2a0ac808f3"), looks := false }, kinds := [], alts := [], laidByText := true, laidKinds := [.data], laidTests := true, laidLooks := .later }
def BmapExactUptoCardSaid : Prop := Claim7.holds Tryz.pinned (.plain (OpenSpec.upto bmapExactSpec)) bmapExactUptoCard

/-- THE SECOND FORM's CARD OF 'bolelaw10.BmapGrows'. -/
def bmapGrowsUptoCard : Claim7 := { stood := { row := bmapGrowsUptoRow, standIns := [], harness := (true, "b80351eec088f2800fae7ae13fb281ab8564571843a33504ed636c2a0ac808f3"), looks := false }, kinds := [], alts := [], laidByText := true, laidKinds := [.data], laidTests := true, laidLooks := .later }
def BmapGrowsUptoCardSaid : Prop := Claim7.holds Tryz.pinned (.plain (OpenSpec.upto bmapGrowsSpec)) bmapGrowsUptoCard

/-- THE SECOND FORM's CARD OF 'bolelaw10.BmapCuts'. -/
def bmapCutsUptoCard : Claim7 := { stood := { row := bmapCutsUptoRow, standIns := [], harness := (true, "b80351eec088f2800fae7ae13fb281ab8564571843a33504ed636c2a0ac808f3"), looks := false }, kinds := [], alts := [], laidByText := true, laidKinds := [.data], laidTests := true, laidLooks := .later }
def BmapCutsUptoCardSaid : Prop := Claim7.holds Tryz.pinned (.plain (OpenSpec.upto bmapCutsSpec)) bmapCutsUptoCard

/-- THE SECOND FORM's CARD OF 'bolelaw10.BmapFull'. -/
def bmapFullUptoCard : Claim7 := { stood := { row := bmapFullUptoRow, standIns := [], harness := (true, "b80351eec088f2800fae7ae13fb281ab8564571843a33504ed636c2a0ac808f3"), looks := false }, kinds := [], alts := [], laidByText := true, laidKinds := [.data], laidTests := true, laidLooks := .later }
def BmapFullUptoCardSaid : Prop := Claim7.holds Tryz.pinned (.plain (OpenSpec.upto bmapFullSpec)) bmapFullUptoCard

/-- THE SECOND FORM's CARD OF 'bolelaw12.FileRefuses'. -/
def fileRefusesUptoCard : Claim7 := { stood := { row := fileRefusesUptoRow, standIns := [], harness := (true, "b80351eec088f2800fae7ae13fb281ab8564571843a33504ed636c2a0ac808f3"), looks := false }, kinds := [], alts := [], laidByText := true, laidKinds := [.data], laidTests := true, laidLooks := .later }
def FileRefusesUptoCardSaid : Prop := Claim7.holds Tryz.pinned (.plain (OpenSpec.upto fileRefusesSpec)) fileRefusesUptoCard

/-- THE SECOND FORM's CARD OF 'bolelaw12.FilePlain'. -/
def filePlainUptoCard : Claim7 := { stood := { row := filePlainUptoRow, standIns := [], harness := (true, "b80351eec088f2800fae7ae13fb281ab8564571843a33504ed636c2a0ac808f3"), looks := false }, kinds := [], alts := [], laidByText := true, laidKinds := [.data], laidTests := true, laidLooks := .later }
def FilePlainUptoCardSaid : Prop := Claim7.holds Tryz.pinned (.plain (OpenSpec.upto filePlainSpec)) filePlainUptoCard
end Rows
end Go.Proofs.YtcdpakjhjmchhaaGreatDoor
