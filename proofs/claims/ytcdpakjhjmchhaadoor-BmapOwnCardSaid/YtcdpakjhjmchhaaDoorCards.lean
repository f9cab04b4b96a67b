/-
  DERIVED. GIVEN WITH THE SEED: THE CARDS: each row of YtcdpakjhjmchhaaDoorRows.lean that lists a variable, with what it lists TIED to the program's text (the seventh form; the later family's looks); each row that meets fmt, with fmt's text TOLD by the authors' own Lean function (tested against real Go, not proved from fmt's source: count such statements apart). THE CARD IS WHAT COUNTS. Prove the row's statement (the work); the ties are given (YtcdpakjhjmchhaaDoorTie.lean); close each card by the builder's one call (the guide's Derived/Test/ToyasCard.lean, 'card_holds'). Laid BY PROGRAM, IN A SANDBOX (cutbox-door.mjs). By AI agents, Wed Nov 11 2026. No macro, syntax, notation, axiom, sorry.
-/
import Derived.Test.YtcdpakjhjmchhaaDoorRows
import GoSem.ClaimSeven
namespace Go.Proofs.YtcdpakjhjmchhaaDoor
namespace Rows

/-- THE TIED CARD OF 'bolelaw10.BmapLowest'. -/
def bmapLowestCard : Claim7 := { stood := { row := bmapLowestRow, standIns := [], harness := (true, "d8bb4368e0df6dbbd003c0002a73b64e7d78d101547ca8d307ae48ed7ddefb0f"), looks := false }, kinds := [], alts := [], laidByText := true, laidKinds := [.data], laidTests := true, laidLooks := .later }
def BmapLowestCardSaid : Prop := Claim7.holds Tryd.pinned (.plain (OpenSpec.ofChange bmapLowestSpec)) bmapLowestCard

/-- THE TIED CARD OF 'bolelaw10.BmapOwn'. -/
def bmapOwnCard : Claim7 := { stood := { row := bmapOwnRow, standIns := [], harness := (true, "d8bb4368e0df6dbbd003c0002a73b64e7d78d101547ca8d307ae48ed7ddefb0f"), looks := false }, kinds := [], alts := [], laidByText := true, laidKinds := [.data], laidTests := true, laidLooks := .later }
def BmapOwnCardSaid : Prop := Claim7.holds Tryd.pinned (.plain (OpenSpec.ofChange bmapOwnSpec)) bmapOwnCard

/-- THE TIED CARD OF 'bolelaw11.InodeTable'. -/
def inodeTableCard : Claim7 := { stood := { row := inodeTableRow, standIns := [], harness := (true, "d8bb4368e0df6dbbd003c0002a73b64e7d78d101547ca8d307ae48ed7ddefb0f"), looks := false }, kinds := [], alts := [], laidByText := true, laidKinds := [.data], laidTests := true, laidLooks := .later }
def InodeTableCardSaid : Prop := Claim7.holds Tryd.pinned (.plain (OpenSpec.ofChange inodeTableSpec)) inodeTableCard

/-- THE TIED CARD OF 'bolelaw11.InodePlays'. -/
def inodePlaysCard : Claim7 := { stood := { row := inodePlaysRow, standIns := [], harness := (true, "d8bb4368e0df6dbbd003c0002a73b64e7d78d101547ca8d307ae48ed7ddefb0f"), looks := false }, kinds := [], alts := [], laidByText := true, laidKinds := [.data], laidTests := true, laidLooks := .later }
def InodePlaysCardSaid : Prop := Claim7.holds Tryd.pinned (.plain (OpenSpec.ofChange inodePlaysSpec)) inodePlaysCard

/-- THE SECOND FORM's CARD OF 'bolelaw10.BmapLowest'. -/
def bmapLowestUptoCard : Claim7 := { stood := { row := bmapLowestUptoRow, standIns := [], harness := (true, "d8bb4368e0df6dbbd003c0002a73b64e7d78d101547ca8d307ae48ed7ddefb0f"), looks := false }, kinds := [], alts := [], laidByText := true, laidKinds := [.data], laidTests := true, laidLooks := .later }
def BmapLowestUptoCardSaid : Prop := Claim7.holds Tryd.pinned (.plain (OpenSpec.upto bmapLowestSpec)) bmapLowestUptoCard

/-- THE SECOND FORM's CARD OF 'bolelaw10.BmapOwn'. -/
def bmapOwnUptoCard : Claim7 := { stood := { row := bmapOwnUptoRow, standIns := [], harness := (true, "d8bb4368e0df6dbbd003c0002a73b64e7d78d101547ca8d307ae48ed7ddefb0f"), looks := false }, kinds := [], alts := [], laidByText := true, laidKinds := [.data], laidTests := true, laidLooks := .later }
def BmapOwnUptoCardSaid : Prop := Claim7.holds Tryd.pinned (.plain (OpenSpec.upto bmapOwnSpec)) bmapOwnUptoCard

/-- THE SECOND FORM's CARD OF 'bolelaw11.InodeTable'. -/
def inodeTableUptoCard : Claim7 := { stood := { row := inodeTableUptoRow, standIns := [], harness := (true, "d8bb4368e0df6dbbd003c0002a73b64e7d78d101547ca8d307ae48ed7ddefb0f"), looks := false }, kinds := [], alts := [], laidByText := true, laidKinds := [.data], laidTests := true, laidLooks := .later }
def InodeTableUptoCardSaid : Prop := Claim7.holds Tryd.pinned (.plain (OpenSpec.upto inodeTableSpec)) inodeTableUptoCard

/-- THE SECOND FORM's CARD OF 'bolelaw11.InodePlays'. -/
def inodePlaysUptoCard : Claim7 := { stood := { row := inodePlaysUptoRow, standIns := [], harness := (true, "d8bb4368e0df6dbbd003c0002a73b64e7d78d101547ca8d307ae48ed7ddefb0f"), looks := false }, kinds := [], alts := [], laidByText := true, laidKinds := [.data], laidTests := true, laidLooks := .later }
def InodePlaysUptoCardSaid : Prop := Claim7.holds Tryd.pinned (.plain (OpenSpec.upto inodePlaysSpec)) inodePlaysUptoCard
end Rows
end Go.Proofs.YtcdpakjhjmchhaaDoor
