/-
  NARROWER THAN 'FOR EVERY INPUT', by the rows' own cells (each row's printed sentence says how): HeadExact: laid · HeadBack: laid · HeadOnce: laid · HeadBursts: laid · HeadOwn: laid · InodeBytes: laid · InodeForm: laid.
  DERIVED. THE GIVEN ROWS OF THIS SEAT. 7 by the template 'for every input the law returns true; each argument reads behind the call as it read before'; 0 by the template 'total and deterministic' (their statements: YtnlmieklakolkaaDoorTotals.lean).
  GIVEN WITH THE SEED: the statements are not yours to turn. If you find one false, say at which input.
  Laid BY PROGRAM, IN A SANDBOX (cutbox-rows.mjs): the forced cells as the released guide's own fill.sh prints them over the translation 13d1b5197eee9573… (all of the seat's roots in one cut). By AI agents, Wed Nov 11 2026. No macro, syntax, notation, axiom, sorry.
-/
import Derived.Test.YtnlmieklakolkaaDoorChecked
import GoSem.Claim
import GoSem.ClaimJoined
import GoSem.ClaimMapViews
import Derived.JoinedTies
import Derived.KernelRfl
namespace Go.Proofs.YtnlmieklakolkaaDoor
/- THE CELL 'sum', in the pinned program and in every row, IS THE sha256 OF THE DUMP (.gsa) THAT YtnlmieklakolkaaDoorProg.lean LOADS. Nothing in Lean hashes anything: it is a label: what it is worth is what the hold of that sum in a sandbox is worth. -/
noncomputable def Tryd.pinned : Pinned := { name := "ytnlmieklakolkaadoor", sum := "13d1b5197eee9573965bd24b24737b65232b969405fd917e3ed9f55753ad4128", checked := Tryd.checked }
namespace Rows
def none {H : Type} : Left H := { results := [], args := [] }

/- WHAT THE LISTED PACKAGE-LEVEL VARIABLES READ AS WHEN THE CALL BEGINS. Each datum BY PROGRAM (the guide's laid-datum.mjs) off the statement by which the dump's own 'gosem.cut.vars' lays the variable. In a bare row this is a premise. The card (YtnlmieklakolkaaDoorCards.lean) ties it to the program's text. -/
def laid_bole_rec_widths {H : Type} : DataW H := .agg [.lit (.bool false), .lit (.bool true), .lit (.bool true), .lit (.bool false), .lit (.bool true), .lit (.bool false), .lit (.bool false), .lit (.bool false), .lit (.bool true)]
def laid_bole_sum_half {H : Type} : DataW H := .agg [.lit (.int .u32 0), .lit (.int .u32 498536548), .lit (.int .u32 997073096), .lit (.int .u32 651767980), .lit (.int .u32 1994146192), .lit (.int .u32 1802195444), .lit (.int .u32 1303535960), .lit (.int .u32 1342533948), .lit (.int .u32 3988292384), .lit (.int .u32 4027552580), .lit (.int .u32 3604390888), .lit (.int .u32 3412177804), .lit (.int .u32 2607071920), .lit (.int .u32 2262029012), .lit (.int .u32 2685067896), .lit (.int .u32 3183342108)]

/-- 'bolelaw04.HeadExact': WHATEVER THE INPUT: true; the input reads as it did. -/
def headExactSpec : ChangeSpec := { name := "headExact", fn := fun _ => fun
  | [d1, d2, d3] => { results := [.lit (.bool true)], args := [d1, d2, d3] }
  | _ => none }
def headExactRow : OpenClaim := { program := "ytnlmieklakolkaadoor", sum := "13d1b5197eee9573965bd24b24737b65232b969405fd917e3ed9f55753ad4128", func := "bole/bolelaw04.HeadExact", spec := "headExact", unfollowed := true, recurses := true, named := ["bole/rec.widths", "bole/sum.half"], apart := false, laid := [("bole/rec.widths", laid_bole_rec_widths), ("bole/sum.half", laid_bole_sum_half)] }
def HeadExactSaid : Prop := headExactRow.holds Tryd.pinned (OpenSpec.ofChange headExactSpec)

/-- ITS FALSE NEIGHBOUR: 'it returns false'. Refute it at one input. -/
def headExactWrong : ChangeSpec := { name := "headExact", fn := fun _ => fun
  | [d1, d2, d3] => { results := [.lit (.bool false)], args := [d1, d2, d3] }
  | _ => none }
def HeadExactWrongFalsely : Prop := headExactRow.holds Tryd.pinned (OpenSpec.ofChange headExactWrong)

/-- 'bolelaw04.HeadBack': WHATEVER THE INPUT: true; the input reads as it did. -/
def headBackSpec : ChangeSpec := { name := "headBack", fn := fun _ => fun
  | [d1, d2] => { results := [.lit (.bool true)], args := [d1, d2] }
  | _ => none }
def headBackRow : OpenClaim := { program := "ytnlmieklakolkaadoor", sum := "13d1b5197eee9573965bd24b24737b65232b969405fd917e3ed9f55753ad4128", func := "bole/bolelaw04.HeadBack", spec := "headBack", unfollowed := true, recurses := true, named := ["bole/rec.widths", "bole/sum.half"], apart := false, laid := [("bole/rec.widths", laid_bole_rec_widths), ("bole/sum.half", laid_bole_sum_half)] }
def HeadBackSaid : Prop := headBackRow.holds Tryd.pinned (OpenSpec.ofChange headBackSpec)

/-- ITS FALSE NEIGHBOUR: 'it returns false'. Refute it at one input. -/
def headBackWrong : ChangeSpec := { name := "headBack", fn := fun _ => fun
  | [d1, d2] => { results := [.lit (.bool false)], args := [d1, d2] }
  | _ => none }
def HeadBackWrongFalsely : Prop := headBackRow.holds Tryd.pinned (OpenSpec.ofChange headBackWrong)

/-- 'bolelaw04.HeadOnce': WHATEVER THE INPUT: true; the input reads as it did. -/
def headOnceSpec : ChangeSpec := { name := "headOnce", fn := fun _ => fun
  | [d1, d2, d3] => { results := [.lit (.bool true)], args := [d1, d2, d3] }
  | _ => none }
def headOnceRow : OpenClaim := { program := "ytnlmieklakolkaadoor", sum := "13d1b5197eee9573965bd24b24737b65232b969405fd917e3ed9f55753ad4128", func := "bole/bolelaw04.HeadOnce", spec := "headOnce", unfollowed := true, recurses := true, named := ["bole/rec.widths", "bole/sum.half"], apart := false, laid := [("bole/rec.widths", laid_bole_rec_widths), ("bole/sum.half", laid_bole_sum_half)] }
def HeadOnceSaid : Prop := headOnceRow.holds Tryd.pinned (OpenSpec.ofChange headOnceSpec)

/-- ITS FALSE NEIGHBOUR: 'it returns false'. Refute it at one input. -/
def headOnceWrong : ChangeSpec := { name := "headOnce", fn := fun _ => fun
  | [d1, d2, d3] => { results := [.lit (.bool false)], args := [d1, d2, d3] }
  | _ => none }
def HeadOnceWrongFalsely : Prop := headOnceRow.holds Tryd.pinned (OpenSpec.ofChange headOnceWrong)

/-- 'bolelaw04.HeadBursts': WHATEVER THE INPUT: true; the input reads as it did. -/
def headBurstsSpec : ChangeSpec := { name := "headBursts", fn := fun _ => fun
  | [d1, d2, d3, d4] => { results := [.lit (.bool true)], args := [d1, d2, d3, d4] }
  | _ => none }
def headBurstsRow : OpenClaim := { program := "ytnlmieklakolkaadoor", sum := "13d1b5197eee9573965bd24b24737b65232b969405fd917e3ed9f55753ad4128", func := "bole/bolelaw04.HeadBursts", spec := "headBursts", unfollowed := true, recurses := true, named := ["bole/rec.widths", "bole/sum.half"], apart := false, laid := [("bole/rec.widths", laid_bole_rec_widths), ("bole/sum.half", laid_bole_sum_half)] }
def HeadBurstsSaid : Prop := headBurstsRow.holds Tryd.pinned (OpenSpec.ofChange headBurstsSpec)

/-- ITS FALSE NEIGHBOUR: 'it returns false'. Refute it at one input. -/
def headBurstsWrong : ChangeSpec := { name := "headBursts", fn := fun _ => fun
  | [d1, d2, d3, d4] => { results := [.lit (.bool false)], args := [d1, d2, d3, d4] }
  | _ => none }
def HeadBurstsWrongFalsely : Prop := headBurstsRow.holds Tryd.pinned (OpenSpec.ofChange headBurstsWrong)

/-- 'bolelaw04.HeadOwn': WHATEVER THE INPUT: true; the input reads as it did. -/
def headOwnSpec : ChangeSpec := { name := "headOwn", fn := fun _ => fun
  | [d1, d2] => { results := [.lit (.bool true)], args := [d1, d2] }
  | _ => none }
def headOwnRow : OpenClaim := { program := "ytnlmieklakolkaadoor", sum := "13d1b5197eee9573965bd24b24737b65232b969405fd917e3ed9f55753ad4128", func := "bole/bolelaw04.HeadOwn", spec := "headOwn", unfollowed := true, recurses := true, named := ["bole/rec.widths", "bole/sum.half"], apart := false, laid := [("bole/rec.widths", laid_bole_rec_widths), ("bole/sum.half", laid_bole_sum_half)] }
def HeadOwnSaid : Prop := headOwnRow.holds Tryd.pinned (OpenSpec.ofChange headOwnSpec)

/-- ITS FALSE NEIGHBOUR: 'it returns false'. Refute it at one input. -/
def headOwnWrong : ChangeSpec := { name := "headOwn", fn := fun _ => fun
  | [d1, d2] => { results := [.lit (.bool false)], args := [d1, d2] }
  | _ => none }
def HeadOwnWrongFalsely : Prop := headOwnRow.holds Tryd.pinned (OpenSpec.ofChange headOwnWrong)

/-- 'bolelaw11.InodeBytes': WHATEVER THE INPUT: true; the input reads as it did. -/
def inodeBytesSpec : ChangeSpec := { name := "inodeBytes", fn := fun _ => fun
  | [d1, d2, d3] => { results := [.lit (.bool true)], args := [d1, d2, d3] }
  | _ => none }
def inodeBytesRow : OpenClaim := { program := "ytnlmieklakolkaadoor", sum := "13d1b5197eee9573965bd24b24737b65232b969405fd917e3ed9f55753ad4128", func := "bole/bolelaw11.InodeBytes", spec := "inodeBytes", unfollowed := true, recurses := true, named := ["bole/rec.widths"], apart := false, laid := [("bole/rec.widths", laid_bole_rec_widths)] }
def InodeBytesSaid : Prop := inodeBytesRow.holds Tryd.pinned (OpenSpec.ofChange inodeBytesSpec)

/-- ITS FALSE NEIGHBOUR: 'it returns false'. Refute it at one input. -/
def inodeBytesWrong : ChangeSpec := { name := "inodeBytes", fn := fun _ => fun
  | [d1, d2, d3] => { results := [.lit (.bool false)], args := [d1, d2, d3] }
  | _ => none }
def InodeBytesWrongFalsely : Prop := inodeBytesRow.holds Tryd.pinned (OpenSpec.ofChange inodeBytesWrong)

/-- 'bolelaw11.InodeForm': WHATEVER THE INPUT: true; the input reads as it did. -/
def inodeFormSpec : ChangeSpec := { name := "inodeForm", fn := fun _ => fun
  | [d1, d2, d3] => { results := [.lit (.bool true)], args := [d1, d2, d3] }
  | _ => none }
def inodeFormRow : OpenClaim := { program := "ytnlmieklakolkaadoor", sum := "13d1b5197eee9573965bd24b24737b65232b969405fd917e3ed9f55753ad4128", func := "bole/bolelaw11.InodeForm", spec := "inodeForm", unfollowed := true, recurses := true, named := ["bole/rec.widths"], apart := false, laid := [("bole/rec.widths", laid_bole_rec_widths)] }
def InodeFormSaid : Prop := inodeFormRow.holds Tryd.pinned (OpenSpec.ofChange inodeFormSpec)

/-- ITS FALSE NEIGHBOUR: 'it returns false'. Refute it at one input. -/
def inodeFormWrong : ChangeSpec := { name := "inodeForm", fn := fun _ => fun
  | [d1, d2, d3] => { results := [.lit (.bool false)], args := [d1, d2, d3] }
  | _ => none }
def InodeFormWrongFalsely : Prop := inodeFormRow.holds Tryd.pinned (OpenSpec.ofChange inodeFormWrong)

/- THE SECOND FORM. 'bulk': how many values and letters a reading holds, each counted each time it is reached (what is shared counts as often as it is met; a slice's spare places count too). A statement '..UptoSaid' is the law's where the arguments, and the package variables that the reading takes, are together of bulk at most 1048576: NARROWER than '..Said'. Prove '..Said' where nothing that the law and all that it calls make is longer than what came in: it says more and counts as full. Else prove '..UptoSaid'. A law counts once. -/
mutual
def uptoBulk {H : Type} : DataW H → Nat
  | .lit (.string bytes) => bytes.length + 1
  | .lit _ => 1
  | .nil => 1
  | .ptr d => uptoBulk d + 1
  | .slice elems spare => uptoBulkAll elems + uptoBulkAll spare + 1
  | .agg parts => uptoBulkAll parts + 1
  | .iface _ d => uptoBulk d + 1
  | .map entries => uptoBulkEntries entries + 1
  | .held _ => 1
def uptoBulkAll {H : Type} : List (DataW H) → Nat
  | [] => 0
  | d :: r => uptoBulk d + uptoBulkAll r
def uptoBulkEntries {H : Type} : List (Lit × DataW H) → Nat
  | [] => 0
  | x :: r => uptoBulkEntry x + uptoBulkEntries r
def uptoBulkEntry {H : Type} : Lit × DataW H → Nat
  | (.string bytes, d) => bytes.length + uptoBulk d + 1
  | (_, d) => uptoBulk d + 1
 end
def uptoSmall : (H : Type) → List (DataW H) → Bool := fun _ ds => decide (uptoBulkAll ds ≤ 1048576)
def OpenSpec.upto (s : _root_.Go.ChangeSpec) : _root_.Go.OpenSpec := { _root_.Go.OpenSpec.ofChange s with cond := some uptoSmall }

/-- 'bolelaw04.HeadExact', WHERE WHAT IT READS IS OF BULK AT MOST 1048576: true; the input reads as it did. -/
def headExactUptoRow : OpenClaim := { program := "ytnlmieklakolkaadoor", sum := "13d1b5197eee9573965bd24b24737b65232b969405fd917e3ed9f55753ad4128", func := "bole/bolelaw04.HeadExact", spec := "headExact", unfollowed := true, recurses := true, named := ["bole/rec.widths", "bole/sum.half"], apart := false, laid := [("bole/rec.widths", laid_bole_rec_widths), ("bole/sum.half", laid_bole_sum_half)], narrowed := true }
def HeadExactUptoSaid : Prop := headExactUptoRow.holds Tryd.pinned (OpenSpec.upto headExactSpec)

/-- 'bolelaw04.HeadBack', WHERE WHAT IT READS IS OF BULK AT MOST 1048576: true; the input reads as it did. -/
def headBackUptoRow : OpenClaim := { program := "ytnlmieklakolkaadoor", sum := "13d1b5197eee9573965bd24b24737b65232b969405fd917e3ed9f55753ad4128", func := "bole/bolelaw04.HeadBack", spec := "headBack", unfollowed := true, recurses := true, named := ["bole/rec.widths", "bole/sum.half"], apart := false, laid := [("bole/rec.widths", laid_bole_rec_widths), ("bole/sum.half", laid_bole_sum_half)], narrowed := true }
def HeadBackUptoSaid : Prop := headBackUptoRow.holds Tryd.pinned (OpenSpec.upto headBackSpec)

/-- 'bolelaw04.HeadOnce', WHERE WHAT IT READS IS OF BULK AT MOST 1048576: true; the input reads as it did. -/
def headOnceUptoRow : OpenClaim := { program := "ytnlmieklakolkaadoor", sum := "13d1b5197eee9573965bd24b24737b65232b969405fd917e3ed9f55753ad4128", func := "bole/bolelaw04.HeadOnce", spec := "headOnce", unfollowed := true, recurses := true, named := ["bole/rec.widths", "bole/sum.half"], apart := false, laid := [("bole/rec.widths", laid_bole_rec_widths), ("bole/sum.half", laid_bole_sum_half)], narrowed := true }
def HeadOnceUptoSaid : Prop := headOnceUptoRow.holds Tryd.pinned (OpenSpec.upto headOnceSpec)

/-- 'bolelaw04.HeadBursts', WHERE WHAT IT READS IS OF BULK AT MOST 1048576: true; the input reads as it did. -/
def headBurstsUptoRow : OpenClaim := { program := "ytnlmieklakolkaadoor", sum := "13d1b5197eee9573965bd24b24737b65232b969405fd917e3ed9f55753ad4128", func := "bole/bolelaw04.HeadBursts", spec := "headBursts", unfollowed := true, recurses := true, named := ["bole/rec.widths", "bole/sum.half"], apart := false, laid := [("bole/rec.widths", laid_bole_rec_widths), ("bole/sum.half", laid_bole_sum_half)], narrowed := true }
def HeadBurstsUptoSaid : Prop := headBurstsUptoRow.holds Tryd.pinned (OpenSpec.upto headBurstsSpec)

/-- 'bolelaw04.HeadOwn', WHERE WHAT IT READS IS OF BULK AT MOST 1048576: true; the input reads as it did. -/
def headOwnUptoRow : OpenClaim := { program := "ytnlmieklakolkaadoor", sum := "13d1b5197eee9573965bd24b24737b65232b969405fd917e3ed9f55753ad4128", func := "bole/bolelaw04.HeadOwn", spec := "headOwn", unfollowed := true, recurses := true, named := ["bole/rec.widths", "bole/sum.half"], apart := false, laid := [("bole/rec.widths", laid_bole_rec_widths), ("bole/sum.half", laid_bole_sum_half)], narrowed := true }
def HeadOwnUptoSaid : Prop := headOwnUptoRow.holds Tryd.pinned (OpenSpec.upto headOwnSpec)

/-- 'bolelaw11.InodeBytes', WHERE WHAT IT READS IS OF BULK AT MOST 1048576: true; the input reads as it did. -/
def inodeBytesUptoRow : OpenClaim := { program := "ytnlmieklakolkaadoor", sum := "13d1b5197eee9573965bd24b24737b65232b969405fd917e3ed9f55753ad4128", func := "bole/bolelaw11.InodeBytes", spec := "inodeBytes", unfollowed := true, recurses := true, named := ["bole/rec.widths"], apart := false, laid := [("bole/rec.widths", laid_bole_rec_widths)], narrowed := true }
def InodeBytesUptoSaid : Prop := inodeBytesUptoRow.holds Tryd.pinned (OpenSpec.upto inodeBytesSpec)

/-- 'bolelaw11.InodeForm', WHERE WHAT IT READS IS OF BULK AT MOST 1048576: true; the input reads as it did. -/
def inodeFormUptoRow : OpenClaim := { program := "ytnlmieklakolkaadoor", sum := "13d1b5197eee9573965bd24b24737b65232b969405fd917e3ed9f55753ad4128", func := "bole/bolelaw11.InodeForm", spec := "inodeForm", unfollowed := true, recurses := true, named := ["bole/rec.widths"], apart := false, laid := [("bole/rec.widths", laid_bole_rec_widths)], narrowed := true }
def InodeFormUptoSaid : Prop := inodeFormUptoRow.holds Tryd.pinned (OpenSpec.upto inodeFormSpec)

end Rows
end Go.Proofs.YtnlmieklakolkaaDoor
