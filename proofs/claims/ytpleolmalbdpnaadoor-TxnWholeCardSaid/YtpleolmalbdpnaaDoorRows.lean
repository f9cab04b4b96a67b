/-
  NARROWER THAN 'FOR EVERY INPUT', by the rows' own cells (each row's printed sentence says how): WalKeeps: laid · WalHostile: laid · WalAtomic: laid · TxnReads: laid · TxnBack: laid · TxnLimit: laid · TxnWhole: laid.
  DERIVED. THE GIVEN ROWS OF THIS SEAT. 7 by the template 'for every input the law returns true; each argument reads behind the call as it read before'; 0 by the template 'total and deterministic' (their statements: YtpleolmalbdpnaaDoorTotals.lean).
  GIVEN WITH THE SEED: the statements are not yours to turn. If you find one false, say at which input.
  Laid BY PROGRAM, IN A SANDBOX (cutbox-rows.mjs): the forced cells as the released guide's own fill.sh prints them over the translation 40f23aca88d08b17… (all of the seat's roots in one cut). By AI agents, Wed Nov 11 2026. No macro, syntax, notation, axiom, sorry.
-/
import Derived.Test.YtpleolmalbdpnaaDoorChecked
import GoSem.Claim
import GoSem.ClaimJoined
import GoSem.ClaimMapViews
import Derived.JoinedTies
import Derived.KernelRfl
namespace Go.Proofs.YtpleolmalbdpnaaDoor
/- THE CELL 'sum', in the pinned program and in every row, IS THE sha256 OF THE DUMP (.gsa) THAT YtpleolmalbdpnaaDoorProg.lean LOADS. Nothing in Lean hashes anything: it is a label: what it is worth is what the hold of that sum in a sandbox is worth. -/
noncomputable def Tryd.pinned : Pinned := { name := "ytpleolmalbdpnaadoor", sum := "40f23aca88d08b17998b98bb45354ea761dd6e8c598512813075aa5e1347cc33", checked := Tryd.checked }
namespace Rows
def none {H : Type} : Left H := { results := [], args := [] }

/- WHAT THE LISTED PACKAGE-LEVEL VARIABLES READ AS WHEN THE CALL BEGINS. Each datum BY PROGRAM (the guide's laid-datum.mjs) off the statement by which the dump's own 'gosem.cut.vars' lays the variable. In a bare row this is a premise. The card (YtpleolmalbdpnaaDoorCards.lean) ties it to the program's text. -/
def laid_bole_rec_widths {H : Type} : DataW H := .agg [.lit (.bool false), .lit (.bool true), .lit (.bool true), .lit (.bool false), .lit (.bool true), .lit (.bool false), .lit (.bool false), .lit (.bool false), .lit (.bool true)]
def laid_bole_sum_half {H : Type} : DataW H := .agg [.lit (.int .u32 0), .lit (.int .u32 498536548), .lit (.int .u32 997073096), .lit (.int .u32 651767980), .lit (.int .u32 1994146192), .lit (.int .u32 1802195444), .lit (.int .u32 1303535960), .lit (.int .u32 1342533948), .lit (.int .u32 3988292384), .lit (.int .u32 4027552580), .lit (.int .u32 3604390888), .lit (.int .u32 3412177804), .lit (.int .u32 2607071920), .lit (.int .u32 2262029012), .lit (.int .u32 2685067896), .lit (.int .u32 3183342108)]

/-- 'bolelaw05.WalKeeps': WHATEVER THE INPUT: true; the input reads as it did. -/
def walKeepsSpec : ChangeSpec := { name := "walKeeps", fn := fun _ => fun
  | [d] => { results := [.lit (.bool true)], args := [d] }
  | _ => none }
def walKeepsRow : OpenClaim := { program := "ytpleolmalbdpnaadoor", sum := "40f23aca88d08b17998b98bb45354ea761dd6e8c598512813075aa5e1347cc33", func := "bole/bolelaw05.WalKeeps", spec := "walKeeps", unfollowed := true, recurses := true, named := ["bole/rec.widths", "bole/sum.half"], apart := false, laid := [("bole/rec.widths", laid_bole_rec_widths), ("bole/sum.half", laid_bole_sum_half)] }
def WalKeepsSaid : Prop := walKeepsRow.holds Tryd.pinned (OpenSpec.ofChange walKeepsSpec)

/-- ITS FALSE NEIGHBOUR: 'it returns false'. Refute it at one input. -/
def walKeepsWrong : ChangeSpec := { name := "walKeeps", fn := fun _ => fun
  | [d] => { results := [.lit (.bool false)], args := [d] }
  | _ => none }
def WalKeepsWrongFalsely : Prop := walKeepsRow.holds Tryd.pinned (OpenSpec.ofChange walKeepsWrong)

/-- 'bolelaw05.WalHostile': WHATEVER THE INPUT: true; the input reads as it did. -/
def walHostileSpec : ChangeSpec := { name := "walHostile", fn := fun _ => fun
  | [d1, d2, d3] => { results := [.lit (.bool true)], args := [d1, d2, d3] }
  | _ => none }
def walHostileRow : OpenClaim := { program := "ytpleolmalbdpnaadoor", sum := "40f23aca88d08b17998b98bb45354ea761dd6e8c598512813075aa5e1347cc33", func := "bole/bolelaw05.WalHostile", spec := "walHostile", unfollowed := true, recurses := true, named := ["bole/rec.widths", "bole/sum.half"], apart := false, laid := [("bole/rec.widths", laid_bole_rec_widths), ("bole/sum.half", laid_bole_sum_half)] }
def WalHostileSaid : Prop := walHostileRow.holds Tryd.pinned (OpenSpec.ofChange walHostileSpec)

/-- ITS FALSE NEIGHBOUR: 'it returns false'. Refute it at one input. -/
def walHostileWrong : ChangeSpec := { name := "walHostile", fn := fun _ => fun
  | [d1, d2, d3] => { results := [.lit (.bool false)], args := [d1, d2, d3] }
  | _ => none }
def WalHostileWrongFalsely : Prop := walHostileRow.holds Tryd.pinned (OpenSpec.ofChange walHostileWrong)

/-- 'bolelaw05.WalAtomic': WHATEVER THE INPUT: true; the input reads as it did. -/
def walAtomicSpec : ChangeSpec := { name := "walAtomic", fn := fun _ => fun
  | [d1, d2, d3] => { results := [.lit (.bool true)], args := [d1, d2, d3] }
  | _ => none }
def walAtomicRow : OpenClaim := { program := "ytpleolmalbdpnaadoor", sum := "40f23aca88d08b17998b98bb45354ea761dd6e8c598512813075aa5e1347cc33", func := "bole/bolelaw05.WalAtomic", spec := "walAtomic", unfollowed := true, recurses := true, named := ["bole/rec.widths", "bole/sum.half"], apart := false, laid := [("bole/rec.widths", laid_bole_rec_widths), ("bole/sum.half", laid_bole_sum_half)] }
def WalAtomicSaid : Prop := walAtomicRow.holds Tryd.pinned (OpenSpec.ofChange walAtomicSpec)

/-- ITS FALSE NEIGHBOUR: 'it returns false'. Refute it at one input. -/
def walAtomicWrong : ChangeSpec := { name := "walAtomic", fn := fun _ => fun
  | [d1, d2, d3] => { results := [.lit (.bool false)], args := [d1, d2, d3] }
  | _ => none }
def WalAtomicWrongFalsely : Prop := walAtomicRow.holds Tryd.pinned (OpenSpec.ofChange walAtomicWrong)

/-- 'bolelaw06.TxnReads': WHATEVER THE INPUT: true; the input reads as it did. -/
def txnReadsSpec : ChangeSpec := { name := "txnReads", fn := fun _ => fun
  | [d] => { results := [.lit (.bool true)], args := [d] }
  | _ => none }
def txnReadsRow : OpenClaim := { program := "ytpleolmalbdpnaadoor", sum := "40f23aca88d08b17998b98bb45354ea761dd6e8c598512813075aa5e1347cc33", func := "bole/bolelaw06.TxnReads", spec := "txnReads", unfollowed := true, recurses := true, named := ["bole/rec.widths", "bole/sum.half"], apart := false, laid := [("bole/rec.widths", laid_bole_rec_widths), ("bole/sum.half", laid_bole_sum_half)] }
def TxnReadsSaid : Prop := txnReadsRow.holds Tryd.pinned (OpenSpec.ofChange txnReadsSpec)

/-- ITS FALSE NEIGHBOUR: 'it returns false'. Refute it at one input. -/
def txnReadsWrong : ChangeSpec := { name := "txnReads", fn := fun _ => fun
  | [d] => { results := [.lit (.bool false)], args := [d] }
  | _ => none }
def TxnReadsWrongFalsely : Prop := txnReadsRow.holds Tryd.pinned (OpenSpec.ofChange txnReadsWrong)

/-- 'bolelaw06.TxnBack': WHATEVER THE INPUT: true; the input reads as it did. -/
def txnBackSpec : ChangeSpec := { name := "txnBack", fn := fun _ => fun
  | [d1, d2, d3] => { results := [.lit (.bool true)], args := [d1, d2, d3] }
  | _ => none }
def txnBackRow : OpenClaim := { program := "ytpleolmalbdpnaadoor", sum := "40f23aca88d08b17998b98bb45354ea761dd6e8c598512813075aa5e1347cc33", func := "bole/bolelaw06.TxnBack", spec := "txnBack", unfollowed := true, recurses := true, named := ["bole/rec.widths", "bole/sum.half"], apart := false, laid := [("bole/rec.widths", laid_bole_rec_widths), ("bole/sum.half", laid_bole_sum_half)] }
def TxnBackSaid : Prop := txnBackRow.holds Tryd.pinned (OpenSpec.ofChange txnBackSpec)

/-- ITS FALSE NEIGHBOUR: 'it returns false'. Refute it at one input. -/
def txnBackWrong : ChangeSpec := { name := "txnBack", fn := fun _ => fun
  | [d1, d2, d3] => { results := [.lit (.bool false)], args := [d1, d2, d3] }
  | _ => none }
def TxnBackWrongFalsely : Prop := txnBackRow.holds Tryd.pinned (OpenSpec.ofChange txnBackWrong)

/-- 'bolelaw06.TxnLimit': WHATEVER THE INPUT: true; the input reads as it did. -/
def txnLimitSpec : ChangeSpec := { name := "txnLimit", fn := fun _ => fun
  | [d1, d2] => { results := [.lit (.bool true)], args := [d1, d2] }
  | _ => none }
def txnLimitRow : OpenClaim := { program := "ytpleolmalbdpnaadoor", sum := "40f23aca88d08b17998b98bb45354ea761dd6e8c598512813075aa5e1347cc33", func := "bole/bolelaw06.TxnLimit", spec := "txnLimit", unfollowed := true, recurses := true, named := ["bole/rec.widths", "bole/sum.half"], apart := false, laid := [("bole/rec.widths", laid_bole_rec_widths), ("bole/sum.half", laid_bole_sum_half)] }
def TxnLimitSaid : Prop := txnLimitRow.holds Tryd.pinned (OpenSpec.ofChange txnLimitSpec)

/-- ITS FALSE NEIGHBOUR: 'it returns false'. Refute it at one input. -/
def txnLimitWrong : ChangeSpec := { name := "txnLimit", fn := fun _ => fun
  | [d1, d2] => { results := [.lit (.bool false)], args := [d1, d2] }
  | _ => none }
def TxnLimitWrongFalsely : Prop := txnLimitRow.holds Tryd.pinned (OpenSpec.ofChange txnLimitWrong)

/-- 'bolelaw06.TxnWhole': WHATEVER THE INPUT: true; the input reads as it did. -/
def txnWholeSpec : ChangeSpec := { name := "txnWhole", fn := fun _ => fun
  | [d1, d2, d3, d4, d5] => { results := [.lit (.bool true)], args := [d1, d2, d3, d4, d5] }
  | _ => none }
def txnWholeRow : OpenClaim := { program := "ytpleolmalbdpnaadoor", sum := "40f23aca88d08b17998b98bb45354ea761dd6e8c598512813075aa5e1347cc33", func := "bole/bolelaw06.TxnWhole", spec := "txnWhole", unfollowed := true, recurses := true, named := ["bole/rec.widths", "bole/sum.half"], apart := false, laid := [("bole/rec.widths", laid_bole_rec_widths), ("bole/sum.half", laid_bole_sum_half)] }
def TxnWholeSaid : Prop := txnWholeRow.holds Tryd.pinned (OpenSpec.ofChange txnWholeSpec)

/-- ITS FALSE NEIGHBOUR: 'it returns false'. Refute it at one input. -/
def txnWholeWrong : ChangeSpec := { name := "txnWhole", fn := fun _ => fun
  | [d1, d2, d3, d4, d5] => { results := [.lit (.bool false)], args := [d1, d2, d3, d4, d5] }
  | _ => none }
def TxnWholeWrongFalsely : Prop := txnWholeRow.holds Tryd.pinned (OpenSpec.ofChange txnWholeWrong)

/- THE SECOND FORM. 'bulk': how many values and letters a reading holds, each counted each time it is reached (what is shared counts as often as it is met; a slice's spare places count too). A statement '..UptoSaid' is the law's where the arguments, and the package variables that the reading takes, are together of bulk at most 1048576: NARROWER than '..Said'. Prove '..Said' where nothing that the law and all that it calls make is longer than what came in: it says more and counts as full. Else prove '..UptoSaid'. A law counts once. -/
mutual
def uptoBulk {H : Type} : DataW H → Nat
  | .lit (.string bytes) => bytes.length + 1
  | .lit _ => 1
  | .nil => 1
  | .ptr d => uptoBulk d + 1
  | .slice elems spare => uptoBulkAll elems + uptoBulkAll spare + 1
  | .agg parts => uptoBulkAll parts + 1
  | .iface _ d => uptoBulk d + 1
  | .map entries => uptoBulkEntries entries + 1
  | .held _ => 1
def uptoBulkAll {H : Type} : List (DataW H) → Nat
  | [] => 0
  | d :: r => uptoBulk d + uptoBulkAll r
def uptoBulkEntries {H : Type} : List (Lit × DataW H) → Nat
  | [] => 0
  | x :: r => uptoBulkEntry x + uptoBulkEntries r
def uptoBulkEntry {H : Type} : Lit × DataW H → Nat
  | (.string bytes, d) => bytes.length + uptoBulk d + 1
  | (_, d) => uptoBulk d + 1
 end
def uptoSmall : (H : Type) → List (DataW H) → Bool := fun _ ds => decide (uptoBulkAll ds ≤ 1048576)
def OpenSpec.upto (s : _root_.Go.ChangeSpec) : _root_.Go.OpenSpec := { _root_.Go.OpenSpec.ofChange s with cond := some uptoSmall }

/-- 'bolelaw05.WalKeeps', WHERE WHAT IT READS IS OF BULK AT MOST 1048576: true; the input reads as it did. -/
def walKeepsUptoRow : OpenClaim := { program := "ytpleolmalbdpnaadoor", sum := "40f23aca88d08b17998b98bb45354ea761dd6e8c598512813075aa5e1347cc33", func := "bole/bolelaw05.WalKeeps", spec := "walKeeps", unfollowed := true, recurses := true, named := ["bole/rec.widths", "bole/sum.half"], apart := false, laid := [("bole/rec.widths", laid_bole_rec_widths), ("bole/sum.half", laid_bole_sum_half)], narrowed := true }
def WalKeepsUptoSaid : Prop := walKeepsUptoRow.holds Tryd.pinned (OpenSpec.upto walKeepsSpec)

/-- 'bolelaw05.WalHostile', WHERE WHAT IT READS IS OF BULK AT MOST 1048576: true; the input reads as it did. -/
def walHostileUptoRow : OpenClaim := { program := "ytpleolmalbdpnaadoor", sum := "40f23aca88d08b17998b98bb45354ea761dd6e8c598512813075aa5e1347cc33", func := "bole/bolelaw05.WalHostile", spec := "walHostile", unfollowed := true, recurses := true, named := ["bole/rec.widths", "bole/sum.half"], apart := false, laid := [("bole/rec.widths", laid_bole_rec_widths), ("bole/sum.half", laid_bole_sum_half)], narrowed := true }
def WalHostileUptoSaid : Prop := walHostileUptoRow.holds Tryd.pinned (OpenSpec.upto walHostileSpec)

/-- 'bolelaw05.WalAtomic', WHERE WHAT IT READS IS OF BULK AT MOST 1048576: true; the input reads as it did. -/
def walAtomicUptoRow : OpenClaim := { program := "ytpleolmalbdpnaadoor", sum := "40f23aca88d08b17998b98bb45354ea761dd6e8c598512813075aa5e1347cc33", func := "bole/bolelaw05.WalAtomic", spec := "walAtomic", unfollowed := true, recurses := true, named := ["bole/rec.widths", "bole/sum.half"], apart := false, laid := [("bole/rec.widths", laid_bole_rec_widths), ("bole/sum.half", laid_bole_sum_half)], narrowed := true }
def WalAtomicUptoSaid : Prop := walAtomicUptoRow.holds Tryd.pinned (OpenSpec.upto walAtomicSpec)

/-- 'bolelaw06.TxnReads', WHERE WHAT IT READS IS OF BULK AT MOST 1048576: true; the input reads as it did. -/
def txnReadsUptoRow : OpenClaim := { program := "ytpleolmalbdpnaadoor", sum := "40f23aca88d08b17998b98bb45354ea761dd6e8c598512813075aa5e1347cc33", func := "bole/bolelaw06.TxnReads", spec := "txnReads", unfollowed := true, recurses := true, named := ["bole/rec.widths", "bole/sum.half"], apart := false, laid := [("bole/rec.widths", laid_bole_rec_widths), ("bole/sum.half", laid_bole_sum_half)], narrowed := true }
def TxnReadsUptoSaid : Prop := txnReadsUptoRow.holds Tryd.pinned (OpenSpec.upto txnReadsSpec)

/-- 'bolelaw06.TxnBack', WHERE WHAT IT READS IS OF BULK AT MOST 1048576: true; the input reads as it did. -/
def txnBackUptoRow : OpenClaim := { program := "ytpleolmalbdpnaadoor", sum := "40f23aca88d08b17998b98bb45354ea761dd6e8c598512813075aa5e1347cc33", func := "bole/bolelaw06.TxnBack", spec := "txnBack", unfollowed := true, recurses := true, named := ["bole/rec.widths", "bole/sum.half"], apart := false, laid := [("bole/rec.widths", laid_bole_rec_widths), ("bole/sum.half", laid_bole_sum_half)], narrowed := true }
def TxnBackUptoSaid : Prop := txnBackUptoRow.holds Tryd.pinned (OpenSpec.upto txnBackSpec)

/-- 'bolelaw06.TxnLimit', WHERE WHAT IT READS IS OF BULK AT MOST 1048576: true; the input reads as it did. -/
def txnLimitUptoRow : OpenClaim := { program := "ytpleolmalbdpnaadoor", sum := "40f23aca88d08b17998b98bb45354ea761dd6e8c598512813075aa5e1347cc33", func := "bole/bolelaw06.TxnLimit", spec := "txnLimit", unfollowed := true, recurses := true, named := ["bole/rec.widths", "bole/sum.half"], apart := false, laid := [("bole/rec.widths", laid_bole_rec_widths), ("bole/sum.half", laid_bole_sum_half)], narrowed := true }
def TxnLimitUptoSaid : Prop := txnLimitUptoRow.holds Tryd.pinned (OpenSpec.upto txnLimitSpec)

/-- 'bolelaw06.TxnWhole', WHERE WHAT IT READS IS OF BULK AT MOST 1048576: true; the input reads as it did. -/
def txnWholeUptoRow : OpenClaim := { program := "ytpleolmalbdpnaadoor", sum := "40f23aca88d08b17998b98bb45354ea761dd6e8c598512813075aa5e1347cc33", func := "bole/bolelaw06.TxnWhole", spec := "txnWhole", unfollowed := true, recurses := true, named := ["bole/rec.widths", "bole/sum.half"], apart := false, laid := [("bole/rec.widths", laid_bole_rec_widths), ("bole/sum.half", laid_bole_sum_half)], narrowed := true }
def TxnWholeUptoSaid : Prop := txnWholeUptoRow.holds Tryd.pinned (OpenSpec.upto txnWholeSpec)

end Rows
end Go.Proofs.YtpleolmalbdpnaaDoor
