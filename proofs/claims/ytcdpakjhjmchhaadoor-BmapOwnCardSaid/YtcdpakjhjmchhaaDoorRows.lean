/-
  NARROWER THAN 'FOR EVERY INPUT', by the rows' own cells (each row's printed sentence says how): BmapLowest: laid · BmapOwn: laid · InodeTable: laid · InodePlays: laid.
  DERIVED. THE GIVEN ROWS OF THIS SEAT. 4 by the template 'for every input the law returns true; each argument reads behind the call as it read before'; 0 by the template 'total and deterministic' (their statements: YtcdpakjhjmchhaaDoorTotals.lean).
  GIVEN WITH THE SEED: the statements are not yours to turn. If you find one false, say at which input.
  Laid BY PROGRAM, IN A SANDBOX (cutbox-rows.mjs): the forced cells as the released guide's own fill.sh prints them over the translation 33e8a5200837c7f7… (all of the seat's roots in one cut). By AI agents, Wed Nov 11 2026. No macro, syntax, notation, axiom, sorry.
-/
import Derived.Test.YtcdpakjhjmchhaaDoorChecked
import GoSem.Claim
import GoSem.ClaimJoined
import GoSem.ClaimMapViews
import Derived.JoinedTies
import Derived.KernelRfl
namespace Go.Proofs.YtcdpakjhjmchhaaDoor
/- THE CELL 'sum', in the pinned program and in every row, IS THE sha256 OF THE DUMP (.gsa) THAT YtcdpakjhjmchhaaDoorProg.lean LOADS. Nothing in Lean hashes anything: it is a label: what it is worth is what the hold of that sum in a sandbox is worth. -/
noncomputable def Tryd.pinned : Pinned := { name := "ytcdpakjhjmchhaadoor", sum := "33e8a5200837c7f745c8c4a80d9d653f21c8ab3456d6c772be4c0a22b4d3b360", checked := Tryd.checked }
namespace Rows
def none {H : Type} : Left H := { results := [], args := [] }

/- WHAT THE LISTED PACKAGE-LEVEL VARIABLES READ AS WHEN THE CALL BEGINS. Each datum BY PROGRAM (the guide's laid-datum.mjs) off the statement by which the dump's own 'gosem.cut.vars' lays the variable. In a bare row this is a premise. The card (YtcdpakjhjmchhaaDoorCards.lean) ties it to the program's text. -/
def laid_bole_rec_widths {H : Type} : DataW H := .agg [.lit (.bool false), .lit (.bool true), .lit (.bool true), .lit (.bool false), .lit (.bool true), .lit (.bool false), .lit (.bool false), .lit (.bool false), .lit (.bool true)]

/-- 'bolelaw10.BmapLowest': WHATEVER THE INPUT: true; the input reads as it did. -/
def bmapLowestSpec : ChangeSpec := { name := "bmapLowest", fn := fun _ => fun
  | [d1, d2] => { results := [.lit (.bool true)], args := [d1, d2] }
  | _ => none }
def bmapLowestRow : OpenClaim := { program := "ytcdpakjhjmchhaadoor", sum := "33e8a5200837c7f745c8c4a80d9d653f21c8ab3456d6c772be4c0a22b4d3b360", func := "bole/bolelaw10.BmapLowest", spec := "bmapLowest", unfollowed := true, recurses := true, named := ["bole/rec.widths"], apart := false, laid := [("bole/rec.widths", laid_bole_rec_widths)] }
def BmapLowestSaid : Prop := bmapLowestRow.holds Tryd.pinned (OpenSpec.ofChange bmapLowestSpec)

/-- ITS FALSE NEIGHBOUR: 'it returns false'. Refute it at one input. -/
def bmapLowestWrong : ChangeSpec := { name := "bmapLowest", fn := fun _ => fun
  | [d1, d2] => { results := [.lit (.bool false)], args := [d1, d2] }
  | _ => none }
def BmapLowestWrongFalsely : Prop := bmapLowestRow.holds Tryd.pinned (OpenSpec.ofChange bmapLowestWrong)

/-- 'bolelaw10.BmapOwn': WHATEVER THE INPUT: true; the input reads as it did. -/
def bmapOwnSpec : ChangeSpec := { name := "bmapOwn", fn := fun _ => fun
  | [d1, d2, d3] => { results := [.lit (.bool true)], args := [d1, d2, d3] }
  | _ => none }
def bmapOwnRow : OpenClaim := { program := "ytcdpakjhjmchhaadoor", sum := "33e8a5200837c7f745c8c4a80d9d653f21c8ab3456d6c772be4c0a22b4d3b360", func := "bole/bolelaw10.BmapOwn", spec := "bmapOwn", unfollowed := true, recurses := true, named := ["bole/rec.widths"], apart := false, laid := [("bole/rec.widths", laid_bole_rec_widths)] }
def BmapOwnSaid : Prop := bmapOwnRow.holds Tryd.pinned (OpenSpec.ofChange bmapOwnSpec)

/-- ITS FALSE NEIGHBOUR: 'it returns false'. Refute it at one input. -/
def bmapOwnWrong : ChangeSpec := { name := "bmapOwn", fn := fun _ => fun
  | [d1, d2, d3] => { results := [.lit (.bool false)], args := [d1, d2, d3] }
  | _ => none }
def BmapOwnWrongFalsely : Prop := bmapOwnRow.holds Tryd.pinned (OpenSpec.ofChange bmapOwnWrong)

/-- 'bolelaw11.InodeTable': WHATEVER THE INPUT: true; the input reads as it did. -/
def inodeTableSpec : ChangeSpec := { name := "inodeTable", fn := fun _ => fun
  | [d1, d2, d3] => { results := [.lit (.bool true)], args := [d1, d2, d3] }
  | _ => none }
def inodeTableRow : OpenClaim := { program := "ytcdpakjhjmchhaadoor", sum := "33e8a5200837c7f745c8c4a80d9d653f21c8ab3456d6c772be4c0a22b4d3b360", func := "bole/bolelaw11.InodeTable", spec := "inodeTable", unfollowed := true, recurses := true, named := ["bole/rec.widths"], apart := false, laid := [("bole/rec.widths", laid_bole_rec_widths)] }
def InodeTableSaid : Prop := inodeTableRow.holds Tryd.pinned (OpenSpec.ofChange inodeTableSpec)

/-- ITS FALSE NEIGHBOUR: 'it returns false'. Refute it at one input. -/
def inodeTableWrong : ChangeSpec := { name := "inodeTable", fn := fun _ => fun
  | [d1, d2, d3] => { results := [.lit (.bool false)], args := [d1, d2, d3] }
  | _ => none }
def InodeTableWrongFalsely : Prop := inodeTableRow.holds Tryd.pinned (OpenSpec.ofChange inodeTableWrong)

/-- 'bolelaw11.InodePlays': WHATEVER THE INPUT: true; the input reads as it did. -/
def inodePlaysSpec : ChangeSpec := { name := "inodePlays", fn := fun _ => fun
  | [d1, d2, d3] => { results := [.lit (.bool true)], args := [d1, d2, d3] }
  | _ => none }
def inodePlaysRow : OpenClaim := { program := "ytcdpakjhjmchhaadoor", sum := "33e8a5200837c7f745c8c4a80d9d653f21c8ab3456d6c772be4c0a22b4d3b360", func := "bole/bolelaw11.InodePlays", spec := "inodePlays", unfollowed := true, recurses := true, named := ["bole/rec.widths"], apart := false, laid := [("bole/rec.widths", laid_bole_rec_widths)] }
def InodePlaysSaid : Prop := inodePlaysRow.holds Tryd.pinned (OpenSpec.ofChange inodePlaysSpec)

/-- ITS FALSE NEIGHBOUR: 'it returns false'. Refute it at one input. -/
def inodePlaysWrong : ChangeSpec := { name := "inodePlays", fn := fun _ => fun
  | [d1, d2, d3] => { results := [.lit (.bool false)], args := [d1, d2, d3] }
  | _ => none }
def InodePlaysWrongFalsely : Prop := inodePlaysRow.holds Tryd.pinned (OpenSpec.ofChange inodePlaysWrong)

/- THE SECOND FORM. 'bulk': how many values and letters a reading holds, each counted each time it is reached (what is shared counts as often as it is met; a slice's spare places count too). A statement '..UptoSaid' is the law's where the arguments, and the package variables that the reading takes, are together of bulk at most 1048576: NARROWER than '..Said'. Prove '..Said' where nothing that the law and all that it calls make is longer than what came in: it says more and counts as full. Else prove '..UptoSaid'. A law counts once. -/
mutual
def uptoBulk {H : Type} : DataW H → Nat
  | .lit (.string bytes) => bytes.length + 1
  | .lit _ => 1
  | .nil => 1
  | .ptr d => uptoBulk d + 1
  | .slice elems spare => uptoBulkAll elems + uptoBulkAll spare + 1
  | .agg parts => uptoBulkAll parts + 1
  | .iface _ d => uptoBulk d + 1
  | .map entries => uptoBulkEntries entries + 1
  | .held _ => 1
def uptoBulkAll {H : Type} : List (DataW H) → Nat
  | [] => 0
  | d :: r => uptoBulk d + uptoBulkAll r
def uptoBulkEntries {H : Type} : List (Lit × DataW H) → Nat
  | [] => 0
  | x :: r => uptoBulkEntry x + uptoBulkEntries r
def uptoBulkEntry {H : Type} : Lit × DataW H → Nat
  | (.string bytes, d) => bytes.length + uptoBulk d + 1
  | (_, d) => uptoBulk d + 1
 end
def uptoSmall : (H : Type) → List (DataW H) → Bool := fun _ ds => decide (uptoBulkAll ds ≤ 1048576)
def OpenSpec.upto (s : _root_.Go.ChangeSpec) : _root_.Go.OpenSpec := { _root_.Go.OpenSpec.ofChange s with cond := some uptoSmall }

/-- 'bolelaw10.BmapLowest', WHERE WHAT IT READS IS OF BULK AT MOST 1048576: true; the input reads as it did. -/
def bmapLowestUptoRow : OpenClaim := { program := "ytcdpakjhjmchhaadoor", sum := "33e8a5200837c7f745c8c4a80d9d653f21c8ab3456d6c772be4c0a22b4d3b360", func := "bole/bolelaw10.BmapLowest", spec := "bmapLowest", unfollowed := true, recurses := true, named := ["bole/rec.widths"], apart := false, laid := [("bole/rec.widths", laid_bole_rec_widths)], narrowed := true }
def BmapLowestUptoSaid : Prop := bmapLowestUptoRow.holds Tryd.pinned (OpenSpec.upto bmapLowestSpec)

/-- 'bolelaw10.BmapOwn', WHERE WHAT IT READS IS OF BULK AT MOST 1048576: true; the input reads as it did. -/
def bmapOwnUptoRow : OpenClaim := { program := "ytcdpakjhjmchhaadoor", sum := "33e8a5200837c7f745c8c4a80d9d653f21c8ab3456d6c772be4c0a22b4d3b360", func := "bole/bolelaw10.BmapOwn", spec := "bmapOwn", unfollowed := true, recurses := true, named := ["bole/rec.widths"], apart := false, laid := [("bole/rec.widths", laid_bole_rec_widths)], narrowed := true }
def BmapOwnUptoSaid : Prop := bmapOwnUptoRow.holds Tryd.pinned (OpenSpec.upto bmapOwnSpec)

/-- 'bolelaw11.InodeTable', WHERE WHAT IT READS IS OF BULK AT MOST 1048576: true; the input reads as it did. -/
def inodeTableUptoRow : OpenClaim := { program := "ytcdpakjhjmchhaadoor", sum := "33e8a5200837c7f745c8c4a80d9d653f21c8ab3456d6c772be4c0a22b4d3b360", func := "bole/bolelaw11.InodeTable", spec := "inodeTable", unfollowed := true, recurses := true, named := ["bole/rec.widths"], apart := false, laid := [("bole/rec.widths", laid_bole_rec_widths)], narrowed := true }
def InodeTableUptoSaid : Prop := inodeTableUptoRow.holds Tryd.pinned (OpenSpec.upto inodeTableSpec)

/-- 'bolelaw11.InodePlays', WHERE WHAT IT READS IS OF BULK AT MOST 1048576: true; the input reads as it did. -/
def inodePlaysUptoRow : OpenClaim := { program := "ytcdpakjhjmchhaadoor", sum := "33e8a5200837c7f745c8c4a80d9d653f21c8ab3456d6c772be4c0a22b4d3b360", func := "bole/bolelaw11.InodePlays", spec := "inodePlays", unfollowed := true, recurses := true, named := ["bole/rec.widths"], apart := false, laid := [("bole/rec.widths", laid_bole_rec_widths)], narrowed := true }
def InodePlaysUptoSaid : Prop := inodePlaysUptoRow.holds Tryd.pinned (OpenSpec.upto inodePlaysSpec)

end Rows
end Go.Proofs.YtcdpakjhjmchhaaDoor
