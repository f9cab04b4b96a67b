/-
  DERIVED. GIVEN WITH THE SEED: THE CARDS: each row of YtlbckoblcdoceaaGreatDoorRows.lean that lists a variable, with what it lists TIED to the program's text (the seventh form; the later family's looks); each row that meets fmt, with fmt's text TOLD by the authors' own Lean function (tested against real Go, not proved from fmt's source: count such statements apart). THE CARD IS WHAT COUNTS. Prove the row's statement (the work); the ties are given (YtlbckoblcdoceaaGreatDoorTie.lean); close each card by the builder's one call (the guide's Derived/Test/ToyasCard.lean, 'card_holds'). Laid BY PROGRAM, IN A SANDBOX (cutbox-door.mjs). By AI agents, Wed Nov 11 2026. No macro, syntax, notation, axiom, sorry.
-/
import Derived.Test.YtlbckoblcdoceaaGreatDoorRows
import GoSem.ClaimSeven
namespace Go.Proofs.YtlbckoblcdoceaaGreatDoor
namespace Rows

/-- THE TIED CARD OF 'bolelaw15.DirPlays'. -/
def dirPlaysCard : Claim7 := { stood := { row := dirPlaysRow, standIns := [], harness := (true, "9465cb972ef1d874a85eef9682f99aafc083efb32e53db288a277af1a5c87529"), looks := false }, kinds := [], alts := [], laidByText := true, laidKinds := [.data, .data], laidTests := true, laidLooks := .later }
def DirPlaysCardSaid : Prop := Claim7.holds Tryz.pinned (.plain (OpenSpec.ofChange dirPlaysSpec)) dirPlaysCard

/-- THE SECOND FORM's CARD OF 'bolelaw15.DirPlays'. -/
def dirPlaysUptoCard : Claim7 := { stood := { row := dirPlaysUptoRow, standIns := [], harness := (true, "9465cb972ef1d874a85eef9682f99aafc083efb32e53db288a277af1a5c87529"), looks := false }, kinds := [], alts := [], laidByText := true, laidKinds := [.data, .data], laidTests := true, laidLooks := .later }
def DirPlaysUptoCardSaid : Prop := Claim7.holds Tryz.pinned (.plain (OpenSpec.upto dirPlaysSpec)) dirPlaysUptoCard
end Rows
end Go.Proofs.YtlbckoblcdoceaaGreatDoor
