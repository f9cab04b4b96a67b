/-
  NARROWER THAN 'FOR EVERY INPUT', by the rows' own cells (each row's printed sentence says how): WalPlays: laid · TxnPlays: laid · SpacePlays: laid · FilePlays: laid.
  DERIVED. THE GIVEN ROWS OF THIS SEAT. 4 by the template 'for every input the law returns true; each argument reads behind the call as it read before'; 0 by the template 'total and deterministic' (their statements: YtjdcbblgaoogmaaGreatDoorTotals.lean).
  GIVEN WITH THE SEED: the statements are not yours to turn. If you find one false, say at which input.
  Laid BY PROGRAM, IN A SANDBOX (cutbox-rows.mjs): the forced cells as the released guide's own fill.sh prints them over the translation 93d22b7fc139c22f… (all of the seat's roots in one cut). By AI agents, Wed Nov 11 2026. No macro, syntax, notation, axiom, sorry.
-/
import Derived.Test.YtjdcbblgaoogmaaGreatDoorChecked
import GoSem.Claim
import GoSem.ClaimJoined
import GoSem.ClaimMapViews
import Derived.JoinedTies
import Derived.KernelRfl
namespace Go.Proofs.YtjdcbblgaoogmaaGreatDoor
/- THE CELL 'sum', in the pinned program and in every row, IS THE sha256 OF THE DUMP (.gsa) THAT YtjdcbblgaoogmaaGreatDoorProg.lean LOADS. Nothing in Lean hashes anything: it is a label: what it is worth is what the hold of that sum in a sandbox is worth. -/
noncomputable def Tryz.pinned : Pinned := { name := "ytjdcbblgaoogmaagreatdoor", sum := "93d22b7fc139c22f2707b393cdfa25e0bfed41b3bade87eac9c4323db58a2f15", checked := Tryz.checked }
namespace Rows
def none {H : Type} : Left H := { results := [], args := [] }

/- WHAT THE LISTED PACKAGE-LEVEL VARIABLES READ AS WHEN THE CALL BEGINS. Each datum BY PROGRAM (the guide's laid-datum.mjs) off the statement by which the dump's own 'gosem.cut.vars' lays the variable. In a bare row this is a premise. The card (YtjdcbblgaoogmaaGreatDoorCards.lean) ties it to the program's text. -/
def laid_bole_rec_widths {H : Type} : DataW H := .agg [.lit (.bool false), .lit (.bool true), .lit (.bool true), .lit (.bool false), .lit (.bool true), .lit (.bool false), .lit (.bool false), .lit (.bool false), .lit (.bool true)]
def laid_bole_sum_half {H : Type} : DataW H := .agg [.lit (.int .u32 0), .lit (.int .u32 498536548), .lit (.int .u32 997073096), .lit (.int .u32 651767980), .lit (.int .u32 1994146192), .lit (.int .u32 1802195444), .lit (.int .u32 1303535960), .lit (.int .u32 1342533948), .lit (.int .u32 3988292384), .lit (.int .u32 4027552580), .lit (.int .u32 3604390888), .lit (.int .u32 3412177804), .lit (.int .u32 2607071920), .lit (.int .u32 2262029012), .lit (.int .u32 2685067896), .lit (.int .u32 3183342108)]

/-- 'bolelaw05.WalPlays': WHATEVER THE INPUT: true; the input reads as it did. -/
def walPlaysSpec : ChangeSpec := { name := "walPlays", fn := fun _ => fun
  | [d1, d2] => { results := [.lit (.bool true)], args := [d1, d2] }
  | _ => none }
def walPlaysRow : OpenClaim := { program := "ytjdcbblgaoogmaagreatdoor", sum := "93d22b7fc139c22f2707b393cdfa25e0bfed41b3bade87eac9c4323db58a2f15", func := "bole/bolelaw05.WalPlays", spec := "walPlays", unfollowed := true, recurses := true, named := ["bole/rec.widths", "bole/sum.half"], apart := false, laid := [("bole/rec.widths", laid_bole_rec_widths), ("bole/sum.half", laid_bole_sum_half)] }
def WalPlaysSaid : Prop := walPlaysRow.holds Tryz.pinned (OpenSpec.ofChange walPlaysSpec)

/-- ITS FALSE NEIGHBOUR: 'it returns false'. Refute it at one input. -/
def walPlaysWrong : ChangeSpec := { name := "walPlays", fn := fun _ => fun
  | [d1, d2] => { results := [.lit (.bool false)], args := [d1, d2] }
  | _ => none }
def WalPlaysWrongFalsely : Prop := walPlaysRow.holds Tryz.pinned (OpenSpec.ofChange walPlaysWrong)

/-- 'bolelaw06.TxnPlays': WHATEVER THE INPUT: true; the input reads as it did. -/
def txnPlaysSpec : ChangeSpec := { name := "txnPlays", fn := fun _ => fun
  | [d1, d2] => { results := [.lit (.bool true)], args := [d1, d2] }
  | _ => none }
def txnPlaysRow : OpenClaim := { program := "ytjdcbblgaoogmaagreatdoor", sum := "93d22b7fc139c22f2707b393cdfa25e0bfed41b3bade87eac9c4323db58a2f15", func := "bole/bolelaw06.TxnPlays", spec := "txnPlays", unfollowed := true, recurses := true, named := ["bole/rec.widths", "bole/sum.half"], apart := false, laid := [("bole/rec.widths", laid_bole_rec_widths), ("bole/sum.half", laid_bole_sum_half)] }
def TxnPlaysSaid : Prop := txnPlaysRow.holds Tryz.pinned (OpenSpec.ofChange txnPlaysSpec)

/-- ITS FALSE NEIGHBOUR: 'it returns false'. Refute it at one input. -/
def txnPlaysWrong : ChangeSpec := { name := "txnPlays", fn := fun _ => fun
  | [d1, d2] => { results := [.lit (.bool false)], args := [d1, d2] }
  | _ => none }
def TxnPlaysWrongFalsely : Prop := txnPlaysRow.holds Tryz.pinned (OpenSpec.ofChange txnPlaysWrong)

/-- 'bolelaw09.SpacePlays': WHATEVER THE INPUT: true; the input reads as it did. -/
def spacePlaysSpec : ChangeSpec := { name := "spacePlays", fn := fun _ => fun
  | [d] => { results := [.lit (.bool true)], args := [d] }
  | _ => none }
def spacePlaysRow : OpenClaim := { program := "ytjdcbblgaoogmaagreatdoor", sum := "93d22b7fc139c22f2707b393cdfa25e0bfed41b3bade87eac9c4323db58a2f15", func := "bole/bolelaw09.SpacePlays", spec := "spacePlays", unfollowed := true, recurses := true, named := ["bole/rec.widths", "bole/sum.half"], apart := false, laid := [("bole/rec.widths", laid_bole_rec_widths), ("bole/sum.half", laid_bole_sum_half)] }
def SpacePlaysSaid : Prop := spacePlaysRow.holds Tryz.pinned (OpenSpec.ofChange spacePlaysSpec)

/-- ITS FALSE NEIGHBOUR: 'it returns false'. Refute it at one input. -/
def spacePlaysWrong : ChangeSpec := { name := "spacePlays", fn := fun _ => fun
  | [d] => { results := [.lit (.bool false)], args := [d] }
  | _ => none }
def SpacePlaysWrongFalsely : Prop := spacePlaysRow.holds Tryz.pinned (OpenSpec.ofChange spacePlaysWrong)

/-- 'bolelaw12.FilePlays': WHATEVER THE INPUT: true; the input reads as it did. -/
def filePlaysSpec : ChangeSpec := { name := "filePlays", fn := fun _ => fun
  | [d] => { results := [.lit (.bool true)], args := [d] }
  | _ => none }
def filePlaysRow : OpenClaim := { program := "ytjdcbblgaoogmaagreatdoor", sum := "93d22b7fc139c22f2707b393cdfa25e0bfed41b3bade87eac9c4323db58a2f15", func := "bole/bolelaw12.FilePlays", spec := "filePlays", inPlace := ["internal/abi.NoEscape"], unfollowed := true, recurses := true, named := ["bole/rec.widths", "bole/sum.half"], apart := false, laid := [("bole/rec.widths", laid_bole_rec_widths), ("bole/sum.half", laid_bole_sum_half)] }
def FilePlaysSaid : Prop := filePlaysRow.holds Tryz.pinned (OpenSpec.ofChange filePlaysSpec)

/-- ITS FALSE NEIGHBOUR: 'it returns false'. Refute it at one input. -/
def filePlaysWrong : ChangeSpec := { name := "filePlays", fn := fun _ => fun
  | [d] => { results := [.lit (.bool false)], args := [d] }
  | _ => none }
def FilePlaysWrongFalsely : Prop := filePlaysRow.holds Tryz.pinned (OpenSpec.ofChange filePlaysWrong)

/- THE SECOND FORM. 'bulk': how many values and letters a reading holds, each counted each time it is reached (what is shared counts as often as it is met; a slice's spare places count too). A statement '..UptoSaid' is the law's where the arguments, and the package variables that the reading takes, are together of bulk at most 1048576: NARROWER than '..Said'. Prove '..Said' where nothing that the law and all that it calls make is longer than what came in: it says more and counts as full. Else prove '..UptoSaid'. A law counts once. -/
mutual
def uptoBulk {H : Type} : DataW H → Nat
  | .lit (.string bytes) => bytes.length + 1
  | .lit _ => 1
  | .nil => 1
  | .ptr d => uptoBulk d + 1
  | .slice elems spare => uptoBulkAll elems + uptoBulkAll spare + 1
  | .agg parts => uptoBulkAll parts + 1
  | .iface _ d => uptoBulk d + 1
  | .map entries => uptoBulkEntries entries + 1
  | .held _ => 1
def uptoBulkAll {H : Type} : List (DataW H) → Nat
  | [] => 0
  | d :: r => uptoBulk d + uptoBulkAll r
def uptoBulkEntries {H : Type} : List (Lit × DataW H) → Nat
  | [] => 0
  | x :: r => uptoBulkEntry x + uptoBulkEntries r
def uptoBulkEntry {H : Type} : Lit × DataW H → Nat
  | (.string bytes, d) => bytes.length + uptoBulk d + 1
  | (_, d) => uptoBulk d + 1
 end
def uptoSmall : (H : Type) → List (DataW H) → Bool := fun _ ds => decide (uptoBulkAll ds ≤ 1048576)
def OpenSpec.upto (s : _root_.Go.ChangeSpec) : _root_.Go.OpenSpec := { _root_.Go.OpenSpec.ofChange s with cond := some uptoSmall }

/-- 'bolelaw05.WalPlays', WHERE WHAT IT READS IS OF BULK AT MOST 1048576: true; the input reads as it did. -/
def walPlaysUptoRow : OpenClaim := { program := "ytjdcbblgaoogmaagreatdoor", sum := "93d22b7fc139c22f2707b393cdfa25e0bfed41b3bade87eac9c4323db58a2f15", func := "bole/bolelaw05.WalPlays", spec := "walPlays", unfollowed := true, recurses := true, named := ["bole/rec.widths", "bole/sum.half"], apart := false, laid := [("bole/rec.widths", laid_bole_rec_widths), ("bole/sum.half", laid_bole_sum_half)], narrowed := true }
def WalPlaysUptoSaid : Prop := walPlaysUptoRow.holds Tryz.pinned (OpenSpec.upto walPlaysSpec)

/-- 'bolelaw06.TxnPlays', WHERE WHAT IT READS IS OF BULK AT MOST 1048576: true; the input reads as it did. -/
def txnPlaysUptoRow : OpenClaim := { program := "ytjdcbblgaoogmaagreatdoor", sum := "93d22b7fc139c22f2707b393cdfa25e0bfed41b3bade87eac9c4323db58a2f15", func := "bole/bolelaw06.TxnPlays", spec := "txnPlays", unfollowed := true, recurses := true, named := ["bole/rec.widths", "bole/sum.half"], apart := false, laid := [("bole/rec.widths", laid_bole_rec_widths), ("bole/sum.half", laid_bole_sum_half)], narrowed := true }
def TxnPlaysUptoSaid : Prop := txnPlaysUptoRow.holds Tryz.pinned (OpenSpec.upto txnPlaysSpec)

/-- 'bolelaw09.SpacePlays', WHERE WHAT IT READS IS OF BULK AT MOST 1048576: true; the input reads as it did. -/
def spacePlaysUptoRow : OpenClaim := { program := "ytjdcbblgaoogmaagreatdoor", sum := "93d22b7fc139c22f2707b393cdfa25e0bfed41b3bade87eac9c4323db58a2f15", func := "bole/bolelaw09.SpacePlays", spec := "spacePlays", unfollowed := true, recurses := true, named := ["bole/rec.widths", "bole/sum.half"], apart := false, laid := [("bole/rec.widths", laid_bole_rec_widths), ("bole/sum.half", laid_bole_sum_half)], narrowed := true }
def SpacePlaysUptoSaid : Prop := spacePlaysUptoRow.holds Tryz.pinned (OpenSpec.upto spacePlaysSpec)

/-- 'bolelaw12.FilePlays', WHERE WHAT IT READS IS OF BULK AT MOST 1048576: true; the input reads as it did. -/
def filePlaysUptoRow : OpenClaim := { program := "ytjdcbblgaoogmaagreatdoor", sum := "93d22b7fc139c22f2707b393cdfa25e0bfed41b3bade87eac9c4323db58a2f15", func := "bole/bolelaw12.FilePlays", spec := "filePlays", inPlace := ["internal/abi.NoEscape"], unfollowed := true, recurses := true, named := ["bole/rec.widths", "bole/sum.half"], apart := false, laid := [("bole/rec.widths", laid_bole_rec_widths), ("bole/sum.half", laid_bole_sum_half)], narrowed := true }
def FilePlaysUptoSaid : Prop := filePlaysUptoRow.holds Tryz.pinned (OpenSpec.upto filePlaysSpec)

end Rows
end Go.Proofs.YtjdcbblgaoogmaaGreatDoor
