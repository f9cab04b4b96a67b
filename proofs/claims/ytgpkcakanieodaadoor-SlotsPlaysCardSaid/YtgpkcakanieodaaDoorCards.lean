/-
  DERIVED. GIVEN WITH THE SEED: THE CARDS: each row of YtgpkcakanieodaaDoorRows.lean that lists a variable, with what it lists TIED to the program's text (the seventh form; the later family's looks); each row that meets fmt, with fmt's text TOLD by the authors' own Lean function (tested against real Go, not proved from fmt's source: count such statements apart). THE CARD IS WHAT COUNTS. Prove the row's statement (the work); the ties are given (YtgpkcakanieodaaDoorTie.lean); close each card by the builder's one call (the guide's Derived/Test/ToyasCard.lean, 'card_holds'). Laid BY PROGRAM, IN A SANDBOX (cutbox-door.mjs). By AI agents, Wed Nov 11 2026. No macro, syntax, notation, axiom, sorry.
-/
import Derived.Test.YtgpkcakanieodaaDoorRows
import GoSem.ClaimSeven
namespace Go.Proofs.YtgpkcakanieodaaDoor
namespace Rows

/-- THE TIED CARD OF 'bolelaw14.SlotsPlays'. -/
def slotsPlaysCard : Claim7 := { stood := { row := slotsPlaysRow, standIns := [], harness := (true, "a1c5aa6da5e01f49b38aa645573acfea237839acaf5302ef8e95be0807993ec6"), looks := false }, kinds := [], alts := [], laidByText := true, laidKinds := [.data], laidTests := true, laidLooks := .later }
def SlotsPlaysCardSaid : Prop := Claim7.holds Tryd.pinned (.plain (OpenSpec.ofChange slotsPlaysSpec)) slotsPlaysCard

/-- THE TIED CARD OF 'bolelaw14.SlotsReads'. -/
def slotsReadsCard : Claim7 := { stood := { row := slotsReadsRow, standIns := [], harness := (true, "a1c5aa6da5e01f49b38aa645573acfea237839acaf5302ef8e95be0807993ec6"), looks := false }, kinds := [], alts := [], laidByText := true, laidKinds := [.data], laidTests := true, laidLooks := .later }
def SlotsReadsCardSaid : Prop := Claim7.holds Tryd.pinned (.plain (OpenSpec.ofChange slotsReadsSpec)) slotsReadsCard

/-- THE TIED CARD OF 'bolelaw14.SlotsBack'. -/
def slotsBackCard : Claim7 := { stood := { row := slotsBackRow, standIns := [], harness := (true, "a1c5aa6da5e01f49b38aa645573acfea237839acaf5302ef8e95be0807993ec6"), looks := false }, kinds := [], alts := [], laidByText := true, laidKinds := [.data], laidTests := true, laidLooks := .later }
def SlotsBackCardSaid : Prop := Claim7.holds Tryd.pinned (.plain (OpenSpec.ofChange slotsBackSpec)) slotsBackCard

/-- THE TIED CARD OF 'bolelaw14.SlotsForm'. -/
def slotsFormCard : Claim7 := { stood := { row := slotsFormRow, standIns := [], harness := (true, "a1c5aa6da5e01f49b38aa645573acfea237839acaf5302ef8e95be0807993ec6"), looks := false }, kinds := [], alts := [], laidByText := true, laidKinds := [.data], laidTests := true, laidLooks := .later }
def SlotsFormCardSaid : Prop := Claim7.holds Tryd.pinned (.plain (OpenSpec.ofChange slotsFormSpec)) slotsFormCard

/-- THE TIED CARD OF 'bolelaw14.SlotsRefused'. -/
def slotsRefusedCard : Claim7 := { stood := { row := slotsRefusedRow, standIns := [], harness := (true, "a1c5aa6da5e01f49b38aa645573acfea237839acaf5302ef8e95be0807993ec6"), looks := false }, kinds := [], alts := [], laidByText := true, laidKinds := [.data], laidTests := true, laidLooks := .later }
def SlotsRefusedCardSaid : Prop := Claim7.holds Tryd.pinned (.plain (OpenSpec.ofChange slotsRefusedSpec)) slotsRefusedCard

/-- THE SECOND FORM's CARD OF 'bolelaw14.SlotsPlays'. -/
def slotsPlaysUptoCard : Claim7 := { stood := { row := slotsPlaysUptoRow, standIns := [], harness := (true, "a1c5aa6da5e01f49b38aa645573acfea237839acaf5302ef8e95be0807993ec6"), looks := false }, kinds := [], alts := [], laidByText := true, laidKinds := [.data], laidTests := true, laidLooks := .later }
def SlotsPlaysUptoCardSaid : Prop := Claim7.holds Tryd.pinned (.plain (OpenSpec.upto slotsPlaysSpec)) slotsPlaysUptoCard

/-- THE SECOND FORM's CARD OF 'bolelaw14.SlotsReads'. -/
def slotsReadsUptoCard : Claim7 := { stood := { row := slotsReadsUptoRow, standIns := [], harness := (true, "a1c5aa6da5e01f49b38aa645573acfea237839acaf5302ef8e95be0807993ec6"), looks := false }, kinds := [], alts := [], laidByText := true, laidKinds := [.data], laidTests := true, laidLooks := .later }
def SlotsReadsUptoCardSaid : Prop := Claim7.holds Tryd.pinned (.plain (OpenSpec.upto slotsReadsSpec)) slotsReadsUptoCard

/-- THE SECOND FORM's CARD OF 'bolelaw14.SlotsBack'. -/
def slotsBackUptoCard : Claim7 := { stood := { row := slotsBackUptoRow, standIns := [], harness := (true, "a1c5aa6da5e01f49b38aa645573acfea237839acaf5302ef8e95be0807993ec6"), looks := false }, kinds := [], alts := [], laidByText := true, laidKinds := [.data], laidTests := true, laidLooks := .later }
def SlotsBackUptoCardSaid : Prop := Claim7.holds Tryd.pinned (.plain (OpenSpec.upto slotsBackSpec)) slotsBackUptoCard

/-- THE SECOND FORM's CARD OF 'bolelaw14.SlotsForm'. -/
def slotsFormUptoCard : Claim7 := { stood := { row := slotsFormUptoRow, standIns := [], harness := (true, "a1c5aa6da5e01f49b38aa645573acfea237839acaf5302ef8e95be0807993ec6"), looks := false }, kinds := [], alts := [], laidByText := true, laidKinds := [.data], laidTests := true, laidLooks := .later }
def SlotsFormUptoCardSaid : Prop := Claim7.holds Tryd.pinned (.plain (OpenSpec.upto slotsFormSpec)) slotsFormUptoCard

/-- THE SECOND FORM's CARD OF 'bolelaw14.SlotsRefused'. -/
def slotsRefusedUptoCard : Claim7 := { stood := { row := slotsRefusedUptoRow, standIns := [], harness := (true, "a1c5aa6da5e01f49b38aa645573acfea237839acaf5302ef8e95be0807993ec6"), looks := false }, kinds := [], alts := [], laidByText := true, laidKinds := [.data], laidTests := true, laidLooks := .later }
def SlotsRefusedUptoCardSaid : Prop := Claim7.holds Tryd.pinned (.plain (OpenSpec.upto slotsRefusedSpec)) slotsRefusedUptoCard
end Rows
end Go.Proofs.YtgpkcakanieodaaDoor
