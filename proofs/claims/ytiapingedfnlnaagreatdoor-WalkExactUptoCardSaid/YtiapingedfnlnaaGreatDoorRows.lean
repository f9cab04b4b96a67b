/-
  NARROWER THAN 'FOR EVERY INPUT', by the rows' own cells (each row's printed sentence says how): DirPlain: laid · WalkNames: laid · WalkThrough: laid · WalkHeights: laid · WalkOwn: laid · WalkExact: laid · WalkTree: laid · DirFull: laid · DirNames: laid · DirPlays: laid.
  DERIVED. THE GIVEN ROWS OF THIS SEAT. 10 by the template 'for every input the law returns true; each argument reads behind the call as it read before'; 0 by the template 'total and deterministic' (their statements: YtiapingedfnlnaaGreatDoorTotals.lean).
  GIVEN WITH THE SEED: the statements are not yours to turn. If you find one false, say at which input.
  Laid BY PROGRAM, IN A SANDBOX (cutbox-rows.mjs): the forced cells as the released guide's own fill.sh prints them over the translation 381928dee4608b70… (all of the seat's roots in one cut). By AI agents, Wed Nov 11 2026. No macro, syntax, notation, axiom, sorry.
-/
import Derived.Test.YtiapingedfnlnaaGreatDoorChecked
import GoSem.Claim
import GoSem.ClaimJoined
import GoSem.ClaimMapViews
import Derived.JoinedTies
import Derived.KernelRfl
namespace Go.Proofs.YtiapingedfnlnaaGreatDoor
/- THE CELL 'sum', in the pinned program and in every row, IS THE sha256 OF THE DUMP (.gsa) THAT YtiapingedfnlnaaGreatDoorProg.lean LOADS. Nothing in Lean hashes anything: it is a label: what it is worth is what the hold of that sum in a sandbox is worth. -/
noncomputable def Tryz.pinned : Pinned := { name := "ytiapingedfnlnaagreatdoor", sum := "381928dee4608b70803adc271be9a1ebe0e25ecceeb95beb14f46c38fb644505", checked := Tryz.checked }
namespace Rows
def none {H : Type} : Left H := { results := [], args := [] }

/- WHAT THE LISTED PACKAGE-LEVEL VARIABLES READ AS WHEN THE CALL BEGINS. Each datum BY PROGRAM (the guide's laid-datum.mjs) off the statement by which the dump's own 'gosem.cut.vars' lays the variable. In a bare row this is a premise. The card (YtiapingedfnlnaaGreatDoorCards.lean) ties it to the program's text. -/
def laid_bole_rec_widths {H : Type} : DataW H := .agg [.lit (.bool false), .lit (.bool true), .lit (.bool true), .lit (.bool false), .lit (.bool true), .lit (.bool false), .lit (.bool false), .lit (.bool false), .lit (.bool true)]
def laid_bole_sum_half {H : Type} : DataW H := .agg [.lit (.int .u32 0), .lit (.int .u32 498536548), .lit (.int .u32 997073096), .lit (.int .u32 651767980), .lit (.int .u32 1994146192), .lit (.int .u32 1802195444), .lit (.int .u32 1303535960), .lit (.int .u32 1342533948), .lit (.int .u32 3988292384), .lit (.int .u32 4027552580), .lit (.int .u32 3604390888), .lit (.int .u32 3412177804), .lit (.int .u32 2607071920), .lit (.int .u32 2262029012), .lit (.int .u32 2685067896), .lit (.int .u32 3183342108)]

/-- 'bolelaw15.DirPlain': WHATEVER THE INPUT: true; the input reads as it did. -/
def dirPlainSpec : ChangeSpec := { name := "dirPlain", fn := fun _ => fun
  | [d] => { results := [.lit (.bool true)], args := [d] }
  | _ => none }
def dirPlainRow : OpenClaim := { program := "ytiapingedfnlnaagreatdoor", sum := "381928dee4608b70803adc271be9a1ebe0e25ecceeb95beb14f46c38fb644505", func := "bole/bolelaw15.DirPlain", spec := "dirPlain", inPlace := ["internal/bytealg.IndexByteString", "internal/bytealg.IndexString"], unfollowed := true, recurses := true, named := ["bole/rec.widths", "internal/bytealg.MaxLen"], apart := false, laid := [("bole/rec.widths", laid_bole_rec_widths)] }
def DirPlainSaid : Prop := dirPlainRow.holds Tryz.pinned (OpenSpec.ofChange dirPlainSpec)

/-- ITS FALSE NEIGHBOUR: 'it returns false'. Refute it at one input. -/
def dirPlainWrong : ChangeSpec := { name := "dirPlain", fn := fun _ => fun
  | [d] => { results := [.lit (.bool false)], args := [d] }
  | _ => none }
def DirPlainWrongFalsely : Prop := dirPlainRow.holds Tryz.pinned (OpenSpec.ofChange dirPlainWrong)

/-- 'bolelaw16.WalkNames': WHATEVER THE INPUT: true; the input reads as it did. -/
def walkNamesSpec : ChangeSpec := { name := "walkNames", fn := fun _ => fun
  | [d] => { results := [.lit (.bool true)], args := [d] }
  | _ => none }
def walkNamesRow : OpenClaim := { program := "ytiapingedfnlnaagreatdoor", sum := "381928dee4608b70803adc271be9a1ebe0e25ecceeb95beb14f46c38fb644505", func := "bole/bolelaw16.WalkNames", spec := "walkNames", inPlace := ["internal/bytealg.IndexByteString", "internal/bytealg.IndexString", "internal/abi.NoEscape"], unfollowed := true, recurses := true, named := ["bole/rec.widths", "internal/bytealg.MaxLen"], apart := false, laid := [("bole/rec.widths", laid_bole_rec_widths)] }
def WalkNamesSaid : Prop := walkNamesRow.holds Tryz.pinned (OpenSpec.ofChange walkNamesSpec)

/-- ITS FALSE NEIGHBOUR: 'it returns false'. Refute it at one input. -/
def walkNamesWrong : ChangeSpec := { name := "walkNames", fn := fun _ => fun
  | [d] => { results := [.lit (.bool false)], args := [d] }
  | _ => none }
def WalkNamesWrongFalsely : Prop := walkNamesRow.holds Tryz.pinned (OpenSpec.ofChange walkNamesWrong)

/-- 'bolelaw16.WalkThrough': WHATEVER THE INPUT: true; the input reads as it did. -/
def walkThroughSpec : ChangeSpec := { name := "walkThrough", fn := fun _ => fun
  | [d1, d2, d3] => { results := [.lit (.bool true)], args := [d1, d2, d3] }
  | _ => none }
def walkThroughRow : OpenClaim := { program := "ytiapingedfnlnaagreatdoor", sum := "381928dee4608b70803adc271be9a1ebe0e25ecceeb95beb14f46c38fb644505", func := "bole/bolelaw16.WalkThrough", spec := "walkThrough", inPlace := ["internal/bytealg.IndexByteString", "internal/bytealg.IndexString", "internal/abi.NoEscape"], unfollowed := true, recurses := true, named := ["bole/rec.widths", "internal/bytealg.MaxLen"], apart := false, laid := [("bole/rec.widths", laid_bole_rec_widths)] }
def WalkThroughSaid : Prop := walkThroughRow.holds Tryz.pinned (OpenSpec.ofChange walkThroughSpec)

/-- ITS FALSE NEIGHBOUR: 'it returns false'. Refute it at one input. -/
def walkThroughWrong : ChangeSpec := { name := "walkThrough", fn := fun _ => fun
  | [d1, d2, d3] => { results := [.lit (.bool false)], args := [d1, d2, d3] }
  | _ => none }
def WalkThroughWrongFalsely : Prop := walkThroughRow.holds Tryz.pinned (OpenSpec.ofChange walkThroughWrong)

/-- 'bolelaw16.WalkHeights': WHATEVER THE INPUT: true; the input reads as it did. -/
def walkHeightsSpec : ChangeSpec := { name := "walkHeights", fn := fun _ => fun
  | [d1, d2] => { results := [.lit (.bool true)], args := [d1, d2] }
  | _ => none }
def walkHeightsRow : OpenClaim := { program := "ytiapingedfnlnaagreatdoor", sum := "381928dee4608b70803adc271be9a1ebe0e25ecceeb95beb14f46c38fb644505", func := "bole/bolelaw16.WalkHeights", spec := "walkHeights", inPlace := ["internal/bytealg.IndexByteString", "internal/bytealg.IndexString", "internal/abi.NoEscape"], unfollowed := true, recurses := true, named := ["bole/rec.widths", "internal/bytealg.MaxLen"], apart := false, laid := [("bole/rec.widths", laid_bole_rec_widths)] }
def WalkHeightsSaid : Prop := walkHeightsRow.holds Tryz.pinned (OpenSpec.ofChange walkHeightsSpec)

/-- ITS FALSE NEIGHBOUR: 'it returns false'. Refute it at one input. -/
def walkHeightsWrong : ChangeSpec := { name := "walkHeights", fn := fun _ => fun
  | [d1, d2] => { results := [.lit (.bool false)], args := [d1, d2] }
  | _ => none }
def WalkHeightsWrongFalsely : Prop := walkHeightsRow.holds Tryz.pinned (OpenSpec.ofChange walkHeightsWrong)

/-- 'bolelaw16.WalkOwn': WHATEVER THE INPUT: true; the input reads as it did. -/
def walkOwnSpec : ChangeSpec := { name := "walkOwn", fn := fun _ => fun
  | [d1, d2, d3] => { results := [.lit (.bool true)], args := [d1, d2, d3] }
  | _ => none }
def walkOwnRow : OpenClaim := { program := "ytiapingedfnlnaagreatdoor", sum := "381928dee4608b70803adc271be9a1ebe0e25ecceeb95beb14f46c38fb644505", func := "bole/bolelaw16.WalkOwn", spec := "walkOwn", inPlace := ["internal/bytealg.IndexByteString", "internal/bytealg.IndexString", "internal/abi.NoEscape"], unfollowed := true, recurses := true, named := ["bole/rec.widths", "internal/bytealg.MaxLen"], apart := false, laid := [("bole/rec.widths", laid_bole_rec_widths)] }
def WalkOwnSaid : Prop := walkOwnRow.holds Tryz.pinned (OpenSpec.ofChange walkOwnSpec)

/-- ITS FALSE NEIGHBOUR: 'it returns false'. Refute it at one input. -/
def walkOwnWrong : ChangeSpec := { name := "walkOwn", fn := fun _ => fun
  | [d1, d2, d3] => { results := [.lit (.bool false)], args := [d1, d2, d3] }
  | _ => none }
def WalkOwnWrongFalsely : Prop := walkOwnRow.holds Tryz.pinned (OpenSpec.ofChange walkOwnWrong)

/-- 'bolelaw16.WalkExact': WHATEVER THE INPUT: true; the input reads as it did. -/
def walkExactSpec : ChangeSpec := { name := "walkExact", fn := fun _ => fun
  | [d1, d2] => { results := [.lit (.bool true)], args := [d1, d2] }
  | _ => none }
def walkExactRow : OpenClaim := { program := "ytiapingedfnlnaagreatdoor", sum := "381928dee4608b70803adc271be9a1ebe0e25ecceeb95beb14f46c38fb644505", func := "bole/bolelaw16.WalkExact", spec := "walkExact", inPlace := ["internal/bytealg.IndexByteString", "internal/bytealg.IndexString", "internal/abi.NoEscape"], unfollowed := true, recurses := true, named := ["bole/rec.widths", "internal/bytealg.MaxLen"], apart := false, laid := [("bole/rec.widths", laid_bole_rec_widths)] }
def WalkExactSaid : Prop := walkExactRow.holds Tryz.pinned (OpenSpec.ofChange walkExactSpec)

/-- ITS FALSE NEIGHBOUR: 'it returns false'. Refute it at one input. -/
def walkExactWrong : ChangeSpec := { name := "walkExact", fn := fun _ => fun
  | [d1, d2] => { results := [.lit (.bool false)], args := [d1, d2] }
  | _ => none }
def WalkExactWrongFalsely : Prop := walkExactRow.holds Tryz.pinned (OpenSpec.ofChange walkExactWrong)

/-- 'bolelaw16.WalkTree': WHATEVER THE INPUT: true; the input reads as it did. -/
def walkTreeSpec : ChangeSpec := { name := "walkTree", fn := fun _ => fun
  | [d1, d2] => { results := [.lit (.bool true)], args := [d1, d2] }
  | _ => none }
def walkTreeRow : OpenClaim := { program := "ytiapingedfnlnaagreatdoor", sum := "381928dee4608b70803adc271be9a1ebe0e25ecceeb95beb14f46c38fb644505", func := "bole/bolelaw16.WalkTree", spec := "walkTree", inPlace := ["internal/bytealg.IndexByteString", "internal/bytealg.IndexString", "internal/abi.NoEscape"], unfollowed := true, recurses := true, named := ["bole/rec.widths", "internal/bytealg.MaxLen"], apart := false, laid := [("bole/rec.widths", laid_bole_rec_widths)] }
def WalkTreeSaid : Prop := walkTreeRow.holds Tryz.pinned (OpenSpec.ofChange walkTreeSpec)

/-- ITS FALSE NEIGHBOUR: 'it returns false'. Refute it at one input. -/
def walkTreeWrong : ChangeSpec := { name := "walkTree", fn := fun _ => fun
  | [d1, d2] => { results := [.lit (.bool false)], args := [d1, d2] }
  | _ => none }
def WalkTreeWrongFalsely : Prop := walkTreeRow.holds Tryz.pinned (OpenSpec.ofChange walkTreeWrong)

/-- 'bolelaw15.DirFull': WHATEVER THE INPUT: true; the input reads as it did. -/
def dirFullSpec : ChangeSpec := { name := "dirFull", fn := fun _ => fun
  | [d1, d2] => { results := [.lit (.bool true)], args := [d1, d2] }
  | _ => none }
def dirFullRow : OpenClaim := { program := "ytiapingedfnlnaagreatdoor", sum := "381928dee4608b70803adc271be9a1ebe0e25ecceeb95beb14f46c38fb644505", func := "bole/bolelaw15.DirFull", spec := "dirFull", inPlace := ["internal/bytealg.IndexByteString", "internal/bytealg.IndexString"], unfollowed := true, recurses := true, named := ["bole/rec.widths", "internal/bytealg.MaxLen"], apart := false, laid := [("bole/rec.widths", laid_bole_rec_widths)] }
def DirFullSaid : Prop := dirFullRow.holds Tryz.pinned (OpenSpec.ofChange dirFullSpec)

/-- ITS FALSE NEIGHBOUR: 'it returns false'. Refute it at one input. -/
def dirFullWrong : ChangeSpec := { name := "dirFull", fn := fun _ => fun
  | [d1, d2] => { results := [.lit (.bool false)], args := [d1, d2] }
  | _ => none }
def DirFullWrongFalsely : Prop := dirFullRow.holds Tryz.pinned (OpenSpec.ofChange dirFullWrong)

/-- 'bolelaw15.DirNames': WHATEVER THE INPUT: true; the input reads as it did. -/
def dirNamesSpec : ChangeSpec := { name := "dirNames", fn := fun _ => fun
  | [d1, d2, d3] => { results := [.lit (.bool true)], args := [d1, d2, d3] }
  | _ => none }
def dirNamesRow : OpenClaim := { program := "ytiapingedfnlnaagreatdoor", sum := "381928dee4608b70803adc271be9a1ebe0e25ecceeb95beb14f46c38fb644505", func := "bole/bolelaw15.DirNames", spec := "dirNames", inPlace := ["internal/bytealg.IndexByteString", "internal/bytealg.IndexString"], unfollowed := true, recurses := true, named := ["bole/rec.widths", "internal/bytealg.MaxLen"], apart := false, laid := [("bole/rec.widths", laid_bole_rec_widths)] }
def DirNamesSaid : Prop := dirNamesRow.holds Tryz.pinned (OpenSpec.ofChange dirNamesSpec)

/-- ITS FALSE NEIGHBOUR: 'it returns false'. Refute it at one input. -/
def dirNamesWrong : ChangeSpec := { name := "dirNames", fn := fun _ => fun
  | [d1, d2, d3] => { results := [.lit (.bool false)], args := [d1, d2, d3] }
  | _ => none }
def DirNamesWrongFalsely : Prop := dirNamesRow.holds Tryz.pinned (OpenSpec.ofChange dirNamesWrong)

/-- 'bolelaw15.DirPlays': WHATEVER THE INPUT: true; the input reads as it did. -/
def dirPlaysSpec : ChangeSpec := { name := "dirPlays", fn := fun _ => fun
  | [d] => { results := [.lit (.bool true)], args := [d] }
  | _ => none }
def dirPlaysRow : OpenClaim := { program := "ytiapingedfnlnaagreatdoor", sum := "381928dee4608b70803adc271be9a1ebe0e25ecceeb95beb14f46c38fb644505", func := "bole/bolelaw15.DirPlays", spec := "dirPlays", inPlace := ["internal/bytealg.IndexByteString", "internal/bytealg.IndexString"], unfollowed := true, recurses := true, named := ["bole/rec.widths", "bole/sum.half", "internal/bytealg.MaxLen"], apart := false, laid := [("bole/rec.widths", laid_bole_rec_widths), ("bole/sum.half", laid_bole_sum_half)] }
def DirPlaysSaid : Prop := dirPlaysRow.holds Tryz.pinned (OpenSpec.ofChange dirPlaysSpec)

/-- ITS FALSE NEIGHBOUR: 'it returns false'. Refute it at one input. -/
def dirPlaysWrong : ChangeSpec := { name := "dirPlays", fn := fun _ => fun
  | [d] => { results := [.lit (.bool false)], args := [d] }
  | _ => none }
def DirPlaysWrongFalsely : Prop := dirPlaysRow.holds Tryz.pinned (OpenSpec.ofChange dirPlaysWrong)

/- THE SECOND FORM. 'bulk': how many values and letters a reading holds, each counted each time it is reached (what is shared counts as often as it is met; a slice's spare places count too). A statement '..UptoSaid' is the law's where the arguments, and the package variables that the reading takes, are together of bulk at most 1048576: NARROWER than '..Said'. Prove '..Said' where nothing that the law and all that it calls make is longer than what came in: it says more and counts as full. Else prove '..UptoSaid'. A law counts once. -/
mutual
def uptoBulk {H : Type} : DataW H → Nat
  | .lit (.string bytes) => bytes.length + 1
  | .lit _ => 1
  | .nil => 1
  | .ptr d => uptoBulk d + 1
  | .slice elems spare => uptoBulkAll elems + uptoBulkAll spare + 1
  | .agg parts => uptoBulkAll parts + 1
  | .iface _ d => uptoBulk d + 1
  | .map entries => uptoBulkEntries entries + 1
  | .held _ => 1
def uptoBulkAll {H : Type} : List (DataW H) → Nat
  | [] => 0
  | d :: r => uptoBulk d + uptoBulkAll r
def uptoBulkEntries {H : Type} : List (Lit × DataW H) → Nat
  | [] => 0
  | x :: r => uptoBulkEntry x + uptoBulkEntries r
def uptoBulkEntry {H : Type} : Lit × DataW H → Nat
  | (.string bytes, d) => bytes.length + uptoBulk d + 1
  | (_, d) => uptoBulk d + 1
 end
def uptoSmall : (H : Type) → List (DataW H) → Bool := fun _ ds => decide (uptoBulkAll ds ≤ 1048576)
def OpenSpec.upto (s : _root_.Go.ChangeSpec) : _root_.Go.OpenSpec := { _root_.Go.OpenSpec.ofChange s with cond := some uptoSmall }

/-- 'bolelaw15.DirPlain', WHERE WHAT IT READS IS OF BULK AT MOST 1048576: true; the input reads as it did. -/
def dirPlainUptoRow : OpenClaim := { program := "ytiapingedfnlnaagreatdoor", sum := "381928dee4608b70803adc271be9a1ebe0e25ecceeb95beb14f46c38fb644505", func := "bole/bolelaw15.DirPlain", spec := "dirPlain", inPlace := ["internal/bytealg.IndexByteString", "internal/bytealg.IndexString"], unfollowed := true, recurses := true, named := ["bole/rec.widths", "internal/bytealg.MaxLen"], apart := false, laid := [("bole/rec.widths", laid_bole_rec_widths)], narrowed := true }
def DirPlainUptoSaid : Prop := dirPlainUptoRow.holds Tryz.pinned (OpenSpec.upto dirPlainSpec)

/-- 'bolelaw16.WalkNames', WHERE WHAT IT READS IS OF BULK AT MOST 1048576: true; the input reads as it did. -/
def walkNamesUptoRow : OpenClaim := { program := "ytiapingedfnlnaagreatdoor", sum := "381928dee4608b70803adc271be9a1ebe0e25ecceeb95beb14f46c38fb644505", func := "bole/bolelaw16.WalkNames", spec := "walkNames", inPlace := ["internal/bytealg.IndexByteString", "internal/bytealg.IndexString", "internal/abi.NoEscape"], unfollowed := true, recurses := true, named := ["bole/rec.widths", "internal/bytealg.MaxLen"], apart := false, laid := [("bole/rec.widths", laid_bole_rec_widths)], narrowed := true }
def WalkNamesUptoSaid : Prop := walkNamesUptoRow.holds Tryz.pinned (OpenSpec.upto walkNamesSpec)

/-- 'bolelaw16.WalkThrough', WHERE WHAT IT READS IS OF BULK AT MOST 1048576: true; the input reads as it did. -/
def walkThroughUptoRow : OpenClaim := { program := "ytiapingedfnlnaagreatdoor", sum := "381928dee4608b70803adc271be9a1ebe0e25ecceeb95beb14f46c38fb644505", func := "bole/bolelaw16.WalkThrough", spec := "walkThrough", inPlace := ["internal/bytealg.IndexByteString", "internal/bytealg.IndexString", "internal/abi.NoEscape"], unfollowed := true, recurses := true, named := ["bole/rec.widths", "internal/bytealg.MaxLen"], apart := false, laid := [("bole/rec.widths", laid_bole_rec_widths)], narrowed := true }
def WalkThroughUptoSaid : Prop := walkThroughUptoRow.holds Tryz.pinned (OpenSpec.upto walkThroughSpec)

/-- 'bolelaw16.WalkHeights', WHERE WHAT IT READS IS OF BULK AT MOST 1048576: true; the input reads as it did. -/
def walkHeightsUptoRow : OpenClaim := { program := "ytiapingedfnlnaagreatdoor", sum := "381928dee4608b70803adc271be9a1ebe0e25ecceeb95beb14f46c38fb644505", func := "bole/bolelaw16.WalkHeights", spec := "walkHeights", inPlace := ["internal/bytealg.IndexByteString", "internal/bytealg.IndexString", "internal/abi.NoEscape"], unfollowed := true, recurses := true, named := ["bole/rec.widths", "internal/bytealg.MaxLen"], apart := false, laid := [("bole/rec.widths", laid_bole_rec_widths)], narrowed := true }
def WalkHeightsUptoSaid : Prop := walkHeightsUptoRow.holds Tryz.pinned (OpenSpec.upto walkHeightsSpec)

/-- 'bolelaw16.WalkOwn', WHERE WHAT IT READS IS OF BULK AT MOST 1048576: true; the input reads as it did. -/
def walkOwnUptoRow : OpenClaim := { program := "ytiapingedfnlnaagreatdoor", sum := "381928dee4608b70803adc271be9a1ebe0e25ecceeb95beb14f46c38fb644505", func := "bole/bolelaw16.WalkOwn", spec := "walkOwn", inPlace := ["internal/bytealg.IndexByteString", "internal/bytealg.IndexString", "internal/abi.NoEscape"], unfollowed := true, recurses := true, named := ["bole/rec.widths", "internal/bytealg.MaxLen"], apart := false, laid := [("bole/rec.widths", laid_bole_rec_widths)], narrowed := true }
def WalkOwnUptoSaid : Prop := walkOwnUptoRow.holds Tryz.pinned (OpenSpec.upto walkOwnSpec)

/-- 'bolelaw16.WalkExact', WHERE WHAT IT READS IS OF BULK AT MOST 1048576: true; the input reads as it did. -/
def walkExactUptoRow : OpenClaim := { program := "ytiapingedfnlnaagreatdoor", sum := "381928dee4608b70803adc271be9a1ebe0e25ecceeb95beb14f46c38fb644505", func := "bole/bolelaw16.WalkExact", spec := "walkExact", inPlace := ["internal/bytealg.IndexByteString", "internal/bytealg.IndexString", "internal/abi.NoEscape"], unfollowed := true, recurses := true, named := ["bole/rec.widths", "internal/bytealg.MaxLen"], apart := false, laid := [("bole/rec.widths", laid_bole_rec_widths)], narrowed := true }
def WalkExactUptoSaid : Prop := walkExactUptoRow.holds Tryz.pinned (OpenSpec.upto walkExactSpec)

/-- 'bolelaw16.WalkTree', WHERE WHAT IT READS IS OF BULK AT MOST 1048576: true; the input reads as it did. -/
def walkTreeUptoRow : OpenClaim := { program := "ytiapingedfnlnaagreatdoor", sum := "381928dee4608b70803adc271be9a1ebe0e25ecceeb95beb14f46c38fb644505", func := "bole/bolelaw16.WalkTree", spec := "walkTree", inPlace := ["internal/bytealg.IndexByteString", "internal/bytealg.IndexString", "internal/abi.NoEscape"], unfollowed := true, recurses := true, named := ["bole/rec.widths", "internal/bytealg.MaxLen"], apart := false, laid := [("bole/rec.widths", laid_bole_rec_widths)], narrowed := true }
def WalkTreeUptoSaid : Prop := walkTreeUptoRow.holds Tryz.pinned (OpenSpec.upto walkTreeSpec)

/-- 'bolelaw15.DirFull', WHERE WHAT IT READS IS OF BULK AT MOST 1048576: true; the input reads as it did. -/
def dirFullUptoRow : OpenClaim := { program := "ytiapingedfnlnaagreatdoor", sum := "381928dee4608b70803adc271be9a1ebe0e25ecceeb95beb14f46c38fb644505", func := "bole/bolelaw15.DirFull", spec := "dirFull", inPlace := ["internal/bytealg.IndexByteString", "internal/bytealg.IndexString"], unfollowed := true, recurses := true, named := ["bole/rec.widths", "internal/bytealg.MaxLen"], apart := false, laid := [("bole/rec.widths", laid_bole_rec_widths)], narrowed := true }
def DirFullUptoSaid : Prop := dirFullUptoRow.holds Tryz.pinned (OpenSpec.upto dirFullSpec)

/-- 'bolelaw15.DirNames', WHERE WHAT IT READS IS OF BULK AT MOST 1048576: true; the input reads as it did. -/
def dirNamesUptoRow : OpenClaim := { program := "ytiapingedfnlnaagreatdoor", sum := "381928dee4608b70803adc271be9a1ebe0e25ecceeb95beb14f46c38fb644505", func := "bole/bolelaw15.DirNames", spec := "dirNames", inPlace := ["internal/bytealg.IndexByteString", "internal/bytealg.IndexString"], unfollowed := true, recurses := true, named := ["bole/rec.widths", "internal/bytealg.MaxLen"], apart := false, laid := [("bole/rec.widths", laid_bole_rec_widths)], narrowed := true }
def DirNamesUptoSaid : Prop := dirNamesUptoRow.holds Tryz.pinned (OpenSpec.upto dirNamesSpec)

/-- 'bolelaw15.DirPlays', WHERE WHAT IT READS IS OF BULK AT MOST 1048576: true; the input reads as it did. -/
def dirPlaysUptoRow : OpenClaim := { program := "ytiapingedfnlnaagreatdoor", sum := "381928dee4608b70803adc271be9a1ebe0e25ecceeb95beb14f46c38fb644505", func := "bole/bolelaw15.DirPlays", spec := "dirPlays", inPlace := ["internal/bytealg.IndexByteString", "internal/bytealg.IndexString"], unfollowed := true, recurses := true, named := ["bole/rec.widths", "bole/sum.half", "internal/bytealg.MaxLen"], apart := false, laid := [("bole/rec.widths", laid_bole_rec_widths), ("bole/sum.half", laid_bole_sum_half)], narrowed := true }
def DirPlaysUptoSaid : Prop := dirPlaysUptoRow.holds Tryz.pinned (OpenSpec.upto dirPlaysSpec)

end Rows
end Go.Proofs.YtiapingedfnlnaaGreatDoor
