/-
  DERIVED. GIVEN WITH THE SEED: THE CARDS: each row of YtnlmieklakolkaaDoorRows.lean that lists a variable, with what it lists TIED to the program's text (the seventh form; the later family's looks); each row that meets fmt, with fmt's text TOLD by the authors' own Lean function (tested against real Go, not proved from fmt's source: count such statements apart). THE CARD IS WHAT COUNTS. Prove the row's statement (the work); the ties are given (YtnlmieklakolkaaDoorTie.lean); close each card by the builder's one call (the guide's Derived/Test/ToyasCard.lean, 'card_holds'). Laid BY PROGRAM, IN A SANDBOX (cutbox-door.mjs). By AI agents, Wed Nov 11 2026. No macro, syntax, notation, axiom, sorry.
-/
import Derived.Test.YtnlmieklakolkaaDoorRows
import GoSem.ClaimSeven
namespace Go.Proofs.YtnlmieklakolkaaDoor
namespace Rows

/-- THE TIED CARD OF 'bolelaw04.HeadExact'. -/
def headExactCard : Claim7 := { stood := { row := headExactRow, standIns := [], harness := (true, "a23ce1c99eff325a887ea7b94ff8cc498413c3733a9df640eb0dad3098f583d9"), looks := false }, kinds := [], alts := [], laidByText := true, laidKinds := [.data, .data], laidTests := true, laidLooks := .later }
def HeadExactCardSaid : Prop := Claim7.holds Tryd.pinned (.plain (OpenSpec.ofChange headExactSpec)) headExactCard

/-- THE TIED CARD OF 'bolelaw04.HeadBack'. -/
def headBackCard : Claim7 := { stood := { row := headBackRow, standIns := [], harness := (true, "a23ce1c99eff325a887ea7b94ff8cc498413c3733a9df640eb0dad3098f583d9"), looks := false }, kinds := [], alts := [], laidByText := true, laidKinds := [.data, .data], laidTests := true, laidLooks := .later }
def HeadBackCardSaid : Prop := Claim7.holds Tryd.pinned (.plain (OpenSpec.ofChange headBackSpec)) headBackCard

/-- THE TIED CARD OF 'bolelaw04.HeadOnce'. -/
def headOnceCard : Claim7 := { stood := { row := headOnceRow, standIns := [], harness := (true, "a23ce1c99eff325a887ea7b94ff8cc498413c3733a9df640eb0dad3098f583d9"), looks := false }, kinds := [], alts := [], laidByText := true, laidKinds := [.data, .data], laidTests := true, laidLooks := .later }
def HeadOnceCardSaid : Prop := Claim7.holds Tryd.pinned (.plain (OpenSpec.ofChange headOnceSpec)) headOnceCard

/-- THE TIED CARD OF 'bolelaw04.HeadBursts'. -/
def headBurstsCard : Claim7 := { stood := { row := headBurstsRow, standIns := [], harness := (true, "a23ce1c99eff325a887ea7b94ff8cc498413c3733a9df640eb0dad3098f583d9"), looks := false }, kinds := [], alts := [], laidByText := true, laidKinds := [.data, .data], laidTests := true, laidLooks := .later }
def HeadBurstsCardSaid : Prop := Claim7.holds Tryd.pinned (.plain (OpenSpec.ofChange headBurstsSpec)) headBurstsCard

/-- THE TIED CARD OF 'bolelaw04.HeadOwn'. -/
def headOwnCard : Claim7 := { stood := { row := headOwnRow, standIns := [], harness := (true, "a23ce1c99eff325a887ea7b94ff8cc498413c3733a9df640eb0dad3098f583d9"), looks := false }, kinds := [], alts := [], laidByText := true, laidKinds := [.data, .data], laidTests := true, laidLooks := .later }
def HeadOwnCardSaid : Prop := Claim7.holds Tryd.pinned (.plain (OpenSpec.ofChange headOwnSpec)) headOwnCard

/-- THE TIED CARD OF 'bolelaw11.InodeBytes'. -/
def inodeBytesCard : Claim7 := { stood := { row := inodeBytesRow, standIns := [], harness := (true, "a23ce1c99eff325a887ea7b94ff8cc498413c3733a9df640eb0dad3098f583d9"), looks := false }, kinds := [], alts := [], laidByText := true, laidKinds := [.data], laidTests := true, laidLooks := .later }
def InodeBytesCardSaid : Prop := Claim7.holds Tryd.pinned (.plain (OpenSpec.ofChange inodeBytesSpec)) inodeBytesCard

/-- THE TIED CARD OF 'bolelaw11.InodeForm'. -/
def inodeFormCard : Claim7 := { stood := { row := inodeFormRow, standIns := [], harness := (true, "a23ce1c99eff325a887ea7b94ff8cc498413c3733a9df640eb0dad3098f583d9"), looks := false }, kinds := [], alts := [], laidByText := true, laidKinds := [.data], laidTests := true, laidLooks := .later }
def InodeFormCardSaid : Prop := Claim7.holds Tryd.pinned (.plain (OpenSpec.ofChange inodeFormSpec)) inodeFormCard

/-- THE SECOND FORM's CARD OF 'bolelaw04.HeadExact'. -/
def headExactUptoCard : Claim7 := { stood := { row := headExactUptoRow, standIns := [], harness := (true, "a23ce1c99eff325a887ea7b94ff8cc498413c3733a9df640eb0dad3098f583d9"), looks := false }, kinds := [], alts := [], laidByText := true, laidKinds := [.data, .data], laidTests := true, laidLooks := .later }
def HeadExactUptoCardSaid : Prop := Claim7.holds Tryd.pinned (.plain (OpenSpec.upto headExactSpec)) headExactUptoCard

/-- THE SECOND FORM's CARD OF 'bolelaw04.HeadBack'. -/
def headBackUptoCard : Claim7 := { stood := { row := headBackUptoRow, standIns := [], harness := (true, "a23ce1c99eff325a887ea7b94ff8cc498413c3733a9df640eb0dad3098f583d9"), looks := false }, kinds := [], alts := [], laidByText := true, laidKinds := [.data, .data], laidTests := true, laidLooks := .later }
def HeadBackUptoCardSaid : Prop := Claim7.holds Tryd.pinned (.plain (OpenSpec.upto headBackSpec)) headBackUptoCard

/-- THE SECOND FORM's CARD OF 'bolelaw04.HeadOnce'. -/
def headOnceUptoCard : Claim7 := { stood := { row := headOnceUptoRow, standIns := [], harness := (true, "a23ce1c99eff325a887ea7b94ff8cc498413c3733a9df640eb0dad3098f583d9"), looks := false }, kinds := [], alts := [], laidByText := true, laidKinds := [.data, .data], laidTests := true, laidLooks := .later }
def HeadOnceUptoCardSaid : Prop := Claim7.holds Tryd.pinned (.plain (OpenSpec.upto headOnceSpec)) headOnceUptoCard

/-- THE SECOND FORM's CARD OF 'bolelaw04.HeadBursts'. -/
def headBurstsUptoCard : Claim7 := { stood := { row := headBurstsUptoRow, standIns := [], harness := (true, "a23ce1c99eff325a887ea7b94ff8cc498413c3733a9df640eb0dad3098f583d9"), looks := false }, kinds := [], alts := [], laidByText := true, laidKinds := [.data, .data], laidTests := true, laidLooks := .later }
def HeadBurstsUptoCardSaid : Prop := Claim7.holds Tryd.pinned (.plain (OpenSpec.upto headBurstsSpec)) headBurstsUptoCard

/-- THE SECOND FORM's CARD OF 'bolelaw04.HeadOwn'. -/
def headOwnUptoCard : Claim7 := { stood := { row := headOwnUptoRow, standIns := [], harness := (true, "a23ce1c99eff325a887ea7b94ff8cc498413c3733a9df640eb0dad3098f583d9"), looks := false }, kinds := [], alts := [], laidByText := true, laidKinds := [.data, .data], laidTests := true, laidLooks := .later }
def HeadOwnUptoCardSaid : Prop := Claim7.holds Tryd.pinned (.plain (OpenSpec.upto headOwnSpec)) headOwnUptoCard

/-- THE SECOND FORM's CARD OF 'bolelaw11.InodeBytes'. -/
def inodeBytesUptoCard : Claim7 := { stood := { row := inodeBytesUptoRow, standIns := [], harness := (true, "a23ce1c99eff325a887ea7b94ff8cc498413c3733a9df640eb0dad3098f583d9"), looks := false }, kinds := [], alts := [], laidByText := true, laidKinds := [.data], laidTests := true, laidLooks := .later }
def InodeBytesUptoCardSaid : Prop := Claim7.holds Tryd.pinned (.plain (OpenSpec.upto inodeBytesSpec)) inodeBytesUptoCard

/-- THE SECOND FORM's CARD OF 'bolelaw11.InodeForm'. -/
def inodeFormUptoCard : Claim7 := { stood := { row := inodeFormUptoRow, standIns := [], harness := (true, "a23ce1c99eff325a887ea7b94ff8cc498413c3733a9df640eb0dad3098f583d9"), looks := false }, kinds := [], alts := [], laidByText := true, laidKinds := [.data], laidTests := true, laidLooks := .later }
def InodeFormUptoCardSaid : Prop := Claim7.holds Tryd.pinned (.plain (OpenSpec.upto inodeFormSpec)) inodeFormUptoCard
end Rows
end Go.Proofs.YtnlmieklakolkaaDoor
