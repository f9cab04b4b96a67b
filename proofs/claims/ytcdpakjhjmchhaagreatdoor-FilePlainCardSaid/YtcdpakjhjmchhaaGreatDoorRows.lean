/-
  NARROWER THAN 'FOR EVERY INPUT', by the rows' own cells (each row's printed sentence says how): FileGives: laid · BmapExact: laid · BmapGrows: laid · BmapCuts: laid · BmapFull: laid · FileRefuses: laid · FilePlain: laid.
  DERIVED. THE GIVEN ROWS OF THIS SEAT. 7 by the template 'for every input the law returns true; each argument reads behind the call as it read before'; 0 by the template 'total and deterministic' (their statements: YtcdpakjhjmchhaaGreatDoorTotals.lean).
  GIVEN WITH THE SEED: the statements are not yours to turn. If you find one false, say at which input.
  Laid BY PROGRAM, IN A SANDBOX (cutbox-rows.mjs): the forced cells as the released guide's own fill.sh prints them over the translation a3ea50f0d6fbafaa… (all of the seat's roots in one cut). By AI agents, Wed Nov 11 2026. No macro, syntax, notation, axiom, sorry.
-/
import Derived.Test.YtcdpakjhjmchhaaGreatDoorChecked
import GoSem.Claim
import GoSem.ClaimJoined
import GoSem.ClaimMapViews
import Derived.JoinedTies
import Derived.KernelRfl
namespace Go.Proofs.YtcdpakjhjmchhaaGreatDoor
/- THE CELL 'sum', in the pinned program and in every row, IS THE sha256 OF THE DUMP (.gsa) THAT YtcdpakjhjmchhaaGreatDoorProg.lean LOADS. Nothing in Lean hashes anything: it is a label: what it is worth is what the hold of that sum in a sandbox is worth. -/
noncomputable def Tryz.pinned : Pinned := { name := "ytcdpakjhjmchhaagreatdoor", sum := "a3ea50f0d6fbafaaefd02c9e2a3b7b0dd54071ce703f1ec78045b55923564cdb", checked := Tryz.checked }
namespace Rows
def none {H : Type} : Left H := { results := [], args := [] }

/- WHAT THE LISTED PACKAGE-LEVEL VARIABLES READ AS WHEN THE CALL BEGINS. Each datum BY PROGRAM (the guide's laid-datum.mjs) off the statement by which the dump's own 'gosem.cut.vars' lays the variable. In a bare row this is a premise. The card (YtcdpakjhjmchhaaGreatDoorCards.lean) ties it to the program's text. -/
def laid_bole_rec_widths {H : Type} : DataW H := .agg [.lit (.bool false), .lit (.bool true), .lit (.bool true), .lit (.bool false), .lit (.bool true), .lit (.bool false), .lit (.bool false), .lit (.bool false), .lit (.bool true)]

/-- 'bolelaw12.FileGives': WHATEVER THE INPUT: true; the input reads as it did. -/
def fileGivesSpec : ChangeSpec := { name := "fileGives", fn := fun _ => fun
  | [d1, d2, d3] => { results := [.lit (.bool true)], args := [d1, d2, d3] }
  | _ => none }
def fileGivesRow : OpenClaim := { program := "ytcdpakjhjmchhaagreatdoor", sum := "a3ea50f0d6fbafaaefd02c9e2a3b7b0dd54071ce703f1ec78045b55923564cdb", func := "bole/bolelaw12.FileGives", spec := "fileGives", inPlace := ["internal/abi.NoEscape"], unfollowed := true, recurses := true, named := ["bole/rec.widths"], apart := false, laid := [("bole/rec.widths", laid_bole_rec_widths)] }
def FileGivesSaid : Prop := fileGivesRow.holds Tryz.pinned (OpenSpec.ofChange fileGivesSpec)

/-- ITS FALSE NEIGHBOUR: 'it returns false'. Refute it at one input. -/
def fileGivesWrong : ChangeSpec := { name := "fileGives", fn := fun _ => fun
  | [d1, d2, d3] => { results := [.lit (.bool false)], args := [d1, d2, d3] }
  | _ => none }
def FileGivesWrongFalsely : Prop := fileGivesRow.holds Tryz.pinned (OpenSpec.ofChange fileGivesWrong)

/-- 'bolelaw10.BmapExact': WHATEVER THE INPUT: true; the input reads as it did. -/
def bmapExactSpec : ChangeSpec := { name := "bmapExact", fn := fun _ => fun
  | [d1, d2, d3] => { results := [.lit (.bool true)], args := [d1, d2, d3] }
  | _ => none }
def bmapExactRow : OpenClaim := { program := "ytcdpakjhjmchhaagreatdoor", sum := "a3ea50f0d6fbafaaefd02c9e2a3b7b0dd54071ce703f1ec78045b55923564cdb", func := "bole/bolelaw10.BmapExact", spec := "bmapExact", unfollowed := true, recurses := true, named := ["bole/rec.widths"], apart := false, laid := [("bole/rec.widths", laid_bole_rec_widths)] }
def BmapExactSaid : Prop := bmapExactRow.holds Tryz.pinned (OpenSpec.ofChange bmapExactSpec)

/-- ITS FALSE NEIGHBOUR: 'it returns false'. Refute it at one input. -/
def bmapExactWrong : ChangeSpec := { name := "bmapExact", fn := fun _ => fun
  | [d1, d2, d3] => { results := [.lit (.bool false)], args := [d1, d2, d3] }
  | _ => none }
def BmapExactWrongFalsely : Prop := bmapExactRow.holds Tryz.pinned (OpenSpec.ofChange bmapExactWrong)

/-- 'bolelaw10.BmapGrows': WHATEVER THE INPUT: true; the input reads as it did. -/
def bmapGrowsSpec : ChangeSpec := { name := "bmapGrows", fn := fun _ => fun
  | [d1, d2, d3] => { results := [.lit (.bool true)], args := [d1, d2, d3] }
  | _ => none }
def bmapGrowsRow : OpenClaim := { program := "ytcdpakjhjmchhaagreatdoor", sum := "a3ea50f0d6fbafaaefd02c9e2a3b7b0dd54071ce703f1ec78045b55923564cdb", func := "bole/bolelaw10.BmapGrows", spec := "bmapGrows", unfollowed := true, recurses := true, named := ["bole/rec.widths"], apart := false, laid := [("bole/rec.widths", laid_bole_rec_widths)] }
def BmapGrowsSaid : Prop := bmapGrowsRow.holds Tryz.pinned (OpenSpec.ofChange bmapGrowsSpec)

/-- ITS FALSE NEIGHBOUR: 'it returns false'. Refute it at one input. -/
def bmapGrowsWrong : ChangeSpec := { name := "bmapGrows", fn := fun _ => fun
  | [d1, d2, d3] => { results := [.lit (.bool false)], args := [d1, d2, d3] }
  | _ => none }
def BmapGrowsWrongFalsely : Prop := bmapGrowsRow.holds Tryz.pinned (OpenSpec.ofChange bmapGrowsWrong)

/-- 'bolelaw10.BmapCuts': WHATEVER THE INPUT: true; the input reads as it did. -/
def bmapCutsSpec : ChangeSpec := { name := "bmapCuts", fn := fun _ => fun
  | [d1, d2, d3] => { results := [.lit (.bool true)], args := [d1, d2, d3] }
  | _ => none }
def bmapCutsRow : OpenClaim := { program := "ytcdpakjhjmchhaagreatdoor", sum := "a3ea50f0d6fbafaaefd02c9e2a3b7b0dd54071ce703f1ec78045b55923564cdb", func := "bole/bolelaw10.BmapCuts", spec := "bmapCuts", unfollowed := true, recurses := true, named := ["bole/rec.widths"], apart := false, laid := [("bole/rec.widths", laid_bole_rec_widths)] }
def BmapCutsSaid : Prop := bmapCutsRow.holds Tryz.pinned (OpenSpec.ofChange bmapCutsSpec)

/-- ITS FALSE NEIGHBOUR: 'it returns false'. Refute it at one input. -/
def bmapCutsWrong : ChangeSpec := { name := "bmapCuts", fn := fun _ => fun
  | [d1, d2, d3] => { results := [.lit (.bool false)], args := [d1, d2, d3] }
  | _ => none }
def BmapCutsWrongFalsely : Prop := bmapCutsRow.holds Tryz.pinned (OpenSpec.ofChange bmapCutsWrong)

/-- 'bolelaw10.BmapFull': WHATEVER THE INPUT: true; the input reads as it did. -/
def bmapFullSpec : ChangeSpec := { name := "bmapFull", fn := fun _ => fun
  | [d1, d2, d3] => { results := [.lit (.bool true)], args := [d1, d2, d3] }
  | _ => none }
def bmapFullRow : OpenClaim := { program := "ytcdpakjhjmchhaagreatdoor", sum := "a3ea50f0d6fbafaaefd02c9e2a3b7b0dd54071ce703f1ec78045b55923564cdb", func := "bole/bolelaw10.BmapFull", spec := "bmapFull", unfollowed := true, recurses := true, named := ["bole/rec.widths"], apart := false, laid := [("bole/rec.widths", laid_bole_rec_widths)] }
def BmapFullSaid : Prop := bmapFullRow.holds Tryz.pinned (OpenSpec.ofChange bmapFullSpec)

/-- ITS FALSE NEIGHBOUR: 'it returns false'. Refute it at one input. -/
def bmapFullWrong : ChangeSpec := { name := "bmapFull", fn := fun _ => fun
  | [d1, d2, d3] => { results := [.lit (.bool false)], args := [d1, d2, d3] }
  | _ => none }
def BmapFullWrongFalsely : Prop := bmapFullRow.holds Tryz.pinned (OpenSpec.ofChange bmapFullWrong)

/-- 'bolelaw12.FileRefuses': WHATEVER THE INPUT: true; the input reads as it did. -/
def fileRefusesSpec : ChangeSpec := { name := "fileRefuses", fn := fun _ => fun
  | [d1, d2, d3] => { results := [.lit (.bool true)], args := [d1, d2, d3] }
  | _ => none }
def fileRefusesRow : OpenClaim := { program := "ytcdpakjhjmchhaagreatdoor", sum := "a3ea50f0d6fbafaaefd02c9e2a3b7b0dd54071ce703f1ec78045b55923564cdb", func := "bole/bolelaw12.FileRefuses", spec := "fileRefuses", inPlace := ["internal/abi.NoEscape"], unfollowed := true, recurses := true, named := ["bole/rec.widths"], apart := false, laid := [("bole/rec.widths", laid_bole_rec_widths)] }
def FileRefusesSaid : Prop := fileRefusesRow.holds Tryz.pinned (OpenSpec.ofChange fileRefusesSpec)

/-- ITS FALSE NEIGHBOUR: 'it returns false'. Refute it at one input. -/
def fileRefusesWrong : ChangeSpec := { name := "fileRefuses", fn := fun _ => fun
  | [d1, d2, d3] => { results := [.lit (.bool false)], args := [d1, d2, d3] }
  | _ => none }
def FileRefusesWrongFalsely : Prop := fileRefusesRow.holds Tryz.pinned (OpenSpec.ofChange fileRefusesWrong)

/-- 'bolelaw12.FilePlain': WHATEVER THE INPUT: true; the input reads as it did. -/
def filePlainSpec : ChangeSpec := { name := "filePlain", fn := fun _ => fun
  | [d1, d2, d3, d4] => { results := [.lit (.bool true)], args := [d1, d2, d3, d4] }
  | _ => none }
def filePlainRow : OpenClaim := { program := "ytcdpakjhjmchhaagreatdoor", sum := "a3ea50f0d6fbafaaefd02c9e2a3b7b0dd54071ce703f1ec78045b55923564cdb", func := "bole/bolelaw12.FilePlain", spec := "filePlain", inPlace := ["internal/abi.NoEscape"], unfollowed := true, recurses := true, named := ["bole/rec.widths"], apart := false, laid := [("bole/rec.widths", laid_bole_rec_widths)] }
def FilePlainSaid : Prop := filePlainRow.holds Tryz.pinned (OpenSpec.ofChange filePlainSpec)

/-- ITS FALSE NEIGHBOUR: 'it returns false'. Refute it at one input. -/
def filePlainWrong : ChangeSpec := { name := "filePlain", fn := fun _ => fun
  | [d1, d2, d3, d4] => { results := [.lit (.bool false)], args := [d1, d2, d3, d4] }
  | _ => none }
def FilePlainWrongFalsely : Prop := filePlainRow.holds Tryz.pinned (OpenSpec.ofChange filePlainWrong)

/- THE SECOND FORM. 'bulk': how many values and letters a reading holds, each counted each time it is reached (what is shared counts as often as it is met; a slice's spare places count too). A statement '..UptoSaid' is the law's where the arguments, and the package variables that the reading takes, are together of bulk at most 1048576: NARROWER than '..Said'. Prove '..Said' where nothing that the law and all that it calls make is longer than what came in: it says more and counts as full. Else prove '..UptoSaid'. A law counts once. -/
mutual
def uptoBulk {H : Type} : DataW H → Nat
  | .lit (.string bytes) => bytes.length + 1
  | .lit _ => 1
  | .nil => 1
  | .ptr d => uptoBulk d + 1
  | .slice elems spare => uptoBulkAll elems + uptoBulkAll spare + 1
  | .agg parts => uptoBulkAll parts + 1
  | .iface _ d => uptoBulk d + 1
  | .map entries => uptoBulkEntries entries + 1
  | .held _ => 1
def uptoBulkAll {H : Type} : List (DataW H) → Nat
  | [] => 0
  | d :: r => uptoBulk d + uptoBulkAll r
def uptoBulkEntries {H : Type} : List (Lit × DataW H) → Nat
  | [] => 0
  | x :: r => uptoBulkEntry x + uptoBulkEntries r
def uptoBulkEntry {H : Type} : Lit × DataW H → Nat
  | (.string bytes, d) => bytes.length + uptoBulk d + 1
  | (_, d) => uptoBulk d + 1
 end
def uptoSmall : (H : Type) → List (DataW H) → Bool := fun _ ds => decide (uptoBulkAll ds ≤ 1048576)
def OpenSpec.upto (s : _root_.Go.ChangeSpec) : _root_.Go.OpenSpec := { _root_.Go.OpenSpec.ofChange s with cond := some uptoSmall }

/-- 'bolelaw12.FileGives', WHERE WHAT IT READS IS OF BULK AT MOST 1048576: true; the input reads as it did. -/
def fileGivesUptoRow : OpenClaim := { program := "ytcdpakjhjmchhaagreatdoor", sum := "a3ea50f0d6fbafaaefd02c9e2a3b7b0dd54071ce703f1ec78045b55923564cdb", func := "bole/bolelaw12.FileGives", spec := "fileGives", inPlace := ["internal/abi.NoEscape"], unfollowed := true, recurses := true, named := ["bole/rec.widths"], apart := false, laid := [("bole/rec.widths", laid_bole_rec_widths)], narrowed := true }
def FileGivesUptoSaid : Prop := fileGivesUptoRow.holds Tryz.pinned (OpenSpec.upto fileGivesSpec)

/-- 'bolelaw10.BmapExact', WHERE WHAT IT READS IS OF BULK AT MOST 1048576: true; the input reads as it did. -/
def bmapExactUptoRow : OpenClaim := { program := "ytcdpakjhjmchhaagreatdoor", sum := "a3ea50f0d6fbafaaefd02c9e2a3b7b0dd54071ce703f1ec78045b55923564cdb", func := "bole/bolelaw10.BmapExact", spec := "bmapExact", unfollowed := true, recurses := true, named := ["bole/rec.widths"], apart := false, laid := [("bole/rec.widths", laid_bole_rec_widths)], narrowed := true }
def BmapExactUptoSaid : Prop := bmapExactUptoRow.holds Tryz.pinned (OpenSpec.upto bmapExactSpec)

/-- 'bolelaw10.BmapGrows', WHERE WHAT IT READS IS OF BULK AT MOST 1048576: true; the input reads as it did. -/
def bmapGrowsUptoRow : OpenClaim := { program := "ytcdpakjhjmchhaagreatdoor", sum := "a3ea50f0d6fbafaaefd02c9e2a3b7b0dd54071ce703f1ec78045b55923564cdb", func := "bole/bolelaw10.BmapGrows", spec := "bmapGrows", unfollowed := true, recurses := true, named := ["bole/rec.widths"], apart := false, laid := [("bole/rec.widths", laid_bole_rec_widths)], narrowed := true }
def BmapGrowsUptoSaid : Prop := bmapGrowsUptoRow.holds Tryz.pinned (OpenSpec.upto bmapGrowsSpec)

/-- 'bolelaw10.BmapCuts', WHERE WHAT IT READS IS OF BULK AT MOST 1048576: true; the input reads as it did. -/
def bmapCutsUptoRow : OpenClaim := { program := "ytcdpakjhjmchhaagreatdoor", sum := "a3ea50f0d6fbafaaefd02c9e2a3b7b0dd54071ce703f1ec78045b55923564cdb", func := "bole/bolelaw10.BmapCuts", spec := "bmapCuts", unfollowed := true, recurses := true, named := ["bole/rec.widths"], apart := false, laid := [("bole/rec.widths", laid_bole_rec_widths)], narrowed := true }
def BmapCutsUptoSaid : Prop := bmapCutsUptoRow.holds Tryz.pinned (OpenSpec.upto bmapCutsSpec)

/-- 'bolelaw10.BmapFull', WHERE WHAT IT READS IS OF BULK AT MOST 1048576: true; the input reads as it did. -/
def bmapFullUptoRow : OpenClaim := { program := "ytcdpakjhjmchhaagreatdoor", sum := "a3ea50f0d6fbafaaefd02c9e2a3b7b0dd54071ce703f1ec78045b55923564cdb", func := "bole/bolelaw10.BmapFull", spec := "bmapFull", unfollowed := true, recurses := true, named := ["bole/rec.widths"], apart := false, laid := [("bole/rec.widths", laid_bole_rec_widths)], narrowed := true }
def BmapFullUptoSaid : Prop := bmapFullUptoRow.holds Tryz.pinned (OpenSpec.upto bmapFullSpec)

/-- 'bolelaw12.FileRefuses', WHERE WHAT IT READS IS OF BULK AT MOST 1048576: true; the input reads as it did. -/
def fileRefusesUptoRow : OpenClaim := { program := "ytcdpakjhjmchhaagreatdoor", sum := "a3ea50f0d6fbafaaefd02c9e2a3b7b0dd54071ce703f1ec78045b55923564cdb", func := "bole/bolelaw12.FileRefuses", spec := "fileRefuses", inPlace := ["internal/abi.NoEscape"], unfollowed := true, recurses := true, named := ["bole/rec.widths"], apart := false, laid := [("bole/rec.widths", laid_bole_rec_widths)], narrowed := true }
def FileRefusesUptoSaid : Prop := fileRefusesUptoRow.holds Tryz.pinned (OpenSpec.upto fileRefusesSpec)

/-- 'bolelaw12.FilePlain', WHERE WHAT IT READS IS OF BULK AT MOST 1048576: true; the input reads as it did. -/
def filePlainUptoRow : OpenClaim := { program := "ytcdpakjhjmchhaagreatdoor", sum := "a3ea50f0d6fbafaaefd02c9e2a3b7b0dd54071ce703f1ec78045b55923564cdb", func := "bole/bolelaw12.FilePlain", spec := "filePlain", inPlace := ["internal/abi.NoEscape"], unfollowed := true, recurses := true, named := ["bole/rec.widths"], apart := false, laid := [("bole/rec.widths", laid_bole_rec_widths)], narrowed := true }
def FilePlainUptoSaid : Prop := filePlainUptoRow.holds Tryz.pinned (OpenSpec.upto filePlainSpec)

end Rows
end Go.Proofs.YtcdpakjhjmchhaaGreatDoor
