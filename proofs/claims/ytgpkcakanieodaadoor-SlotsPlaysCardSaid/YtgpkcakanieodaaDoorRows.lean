/-
  NARROWER THAN 'FOR EVERY INPUT', by the rows' own cells (each row's printed sentence says how): SlotsPlays: laid · SlotsReads: laid · SlotsBack: laid · SlotsForm: laid · SlotsRefused: laid.
  DERIVED. THE GIVEN ROWS OF THIS SEAT. 5 by the template 'for every input the law returns true; each argument reads behind the call as it read before'; 0 by the template 'total and deterministic' (their statements: YtgpkcakanieodaaDoorTotals.lean).
  GIVEN WITH THE SEED: the statements are not yours to turn. If you find one false, say at which input.
  Laid BY PROGRAM, IN A SANDBOX (cutbox-rows.mjs): the forced cells as the released guide's own fill.sh prints them over the translation 7504045d631ec9b7… (all of the seat's roots in one cut). By AI agents, Wed Nov 11 2026. No macro, syntax, notation, axiom, sorry.
-/
import Derived.Test.YtgpkcakanieodaaDoorChecked
import GoSem.Claim
import GoSem.ClaimJoined
import GoSem.ClaimMapViews
import Derived.JoinedTies
import Derived.KernelRfl
namespace Go.Proofs.YtgpkcakanieodaaDoor
/- THE CELL 'sum', in the pinned program and in every row, IS THE sha256 OF THE DUMP (.gsa) THAT YtgpkcakanieodaaDoorProg.lean LOADS. Nothing in Lean hashes anything: it is a label: what it is worth is what the hold of that sum in a sandbox is worth. -/
noncomputable def Tryd.pinned : Pinned := { name := "ytgpkcakanieodaadoor", sum := "7504045d631ec9b7b135dc4ab5747a5abbb4fa5c006f1d7d23969cc245e61c18", checked := Tryd.checked }
namespace Rows
def none {H : Type} : Left H := { results := [], args := [] }

/- WHAT THE LISTED PACKAGE-LEVEL VARIABLES READ AS WHEN THE CALL BEGINS. Each datum BY PROGRAM (the guide's laid-datum.mjs) off the statement by which the dump's own 'gosem.cut.vars' lays the variable. In a bare row this is a premise. The card (YtgpkcakanieodaaDoorCards.lean) ties it to the program's text. -/
def laid_bole_rec_widths {H : Type} : DataW H := .agg [.lit (.bool false), .lit (.bool true), .lit (.bool true), .lit (.bool false), .lit (.bool true), .lit (.bool false), .lit (.bool false), .lit (.bool false), .lit (.bool true)]

/-- 'bolelaw14.SlotsPlays': WHATEVER THE INPUT: true; the input reads as it did. -/
def slotsPlaysSpec : ChangeSpec := { name := "slotsPlays", fn := fun _ => fun
  | [d1, d2] => { results := [.lit (.bool true)], args := [d1, d2] }
  | _ => none }
def slotsPlaysRow : OpenClaim := { program := "ytgpkcakanieodaadoor", sum := "7504045d631ec9b7b135dc4ab5747a5abbb4fa5c006f1d7d23969cc245e61c18", func := "bole/bolelaw14.SlotsPlays", spec := "slotsPlays", inPlace := ["internal/bytealg.IndexByteString", "internal/bytealg.IndexString"], named := ["bole/rec.widths", "internal/bytealg.MaxLen"], apart := false, laid := [("bole/rec.widths", laid_bole_rec_widths)] }
def SlotsPlaysSaid : Prop := slotsPlaysRow.holds Tryd.pinned (OpenSpec.ofChange slotsPlaysSpec)

/-- ITS FALSE NEIGHBOUR: 'it returns false'. Refute it at one input. -/
def slotsPlaysWrong : ChangeSpec := { name := "slotsPlays", fn := fun _ => fun
  | [d1, d2] => { results := [.lit (.bool false)], args := [d1, d2] }
  | _ => none }
def SlotsPlaysWrongFalsely : Prop := slotsPlaysRow.holds Tryd.pinned (OpenSpec.ofChange slotsPlaysWrong)

/-- 'bolelaw14.SlotsReads': WHATEVER THE INPUT: true; the input reads as it did. -/
def slotsReadsSpec : ChangeSpec := { name := "slotsReads", fn := fun _ => fun
  | [d1, d2, d3] => { results := [.lit (.bool true)], args := [d1, d2, d3] }
  | _ => none }
def slotsReadsRow : OpenClaim := { program := "ytgpkcakanieodaadoor", sum := "7504045d631ec9b7b135dc4ab5747a5abbb4fa5c006f1d7d23969cc245e61c18", func := "bole/bolelaw14.SlotsReads", spec := "slotsReads", inPlace := ["internal/bytealg.IndexByteString", "internal/bytealg.IndexString"], named := ["bole/rec.widths", "internal/bytealg.MaxLen"], apart := false, laid := [("bole/rec.widths", laid_bole_rec_widths)] }
def SlotsReadsSaid : Prop := slotsReadsRow.holds Tryd.pinned (OpenSpec.ofChange slotsReadsSpec)

/-- ITS FALSE NEIGHBOUR: 'it returns false'. Refute it at one input. -/
def slotsReadsWrong : ChangeSpec := { name := "slotsReads", fn := fun _ => fun
  | [d1, d2, d3] => { results := [.lit (.bool false)], args := [d1, d2, d3] }
  | _ => none }
def SlotsReadsWrongFalsely : Prop := slotsReadsRow.holds Tryd.pinned (OpenSpec.ofChange slotsReadsWrong)

/-- 'bolelaw14.SlotsBack': WHATEVER THE INPUT: true; the input reads as it did. -/
def slotsBackSpec : ChangeSpec := { name := "slotsBack", fn := fun _ => fun
  | [d1, d2] => { results := [.lit (.bool true)], args := [d1, d2] }
  | _ => none }
def slotsBackRow : OpenClaim := { program := "ytgpkcakanieodaadoor", sum := "7504045d631ec9b7b135dc4ab5747a5abbb4fa5c006f1d7d23969cc245e61c18", func := "bole/bolelaw14.SlotsBack", spec := "slotsBack", inPlace := ["internal/bytealg.IndexByteString", "internal/bytealg.IndexString"], named := ["bole/rec.widths", "internal/bytealg.MaxLen"], apart := false, laid := [("bole/rec.widths", laid_bole_rec_widths)] }
def SlotsBackSaid : Prop := slotsBackRow.holds Tryd.pinned (OpenSpec.ofChange slotsBackSpec)

/-- ITS FALSE NEIGHBOUR: 'it returns false'. Refute it at one input. -/
def slotsBackWrong : ChangeSpec := { name := "slotsBack", fn := fun _ => fun
  | [d1, d2] => { results := [.lit (.bool false)], args := [d1, d2] }
  | _ => none }
def SlotsBackWrongFalsely : Prop := slotsBackRow.holds Tryd.pinned (OpenSpec.ofChange slotsBackWrong)

/-- 'bolelaw14.SlotsForm': WHATEVER THE INPUT: true; the input reads as it did. -/
def slotsFormSpec : ChangeSpec := { name := "slotsForm", fn := fun _ => fun
  | [d1, d2, d3] => { results := [.lit (.bool true)], args := [d1, d2, d3] }
  | _ => none }
def slotsFormRow : OpenClaim := { program := "ytgpkcakanieodaadoor", sum := "7504045d631ec9b7b135dc4ab5747a5abbb4fa5c006f1d7d23969cc245e61c18", func := "bole/bolelaw14.SlotsForm", spec := "slotsForm", inPlace := ["internal/bytealg.IndexByteString", "internal/bytealg.IndexString"], named := ["bole/rec.widths", "internal/bytealg.MaxLen"], apart := false, laid := [("bole/rec.widths", laid_bole_rec_widths)] }
def SlotsFormSaid : Prop := slotsFormRow.holds Tryd.pinned (OpenSpec.ofChange slotsFormSpec)

/-- ITS FALSE NEIGHBOUR: 'it returns false'. Refute it at one input. -/
def slotsFormWrong : ChangeSpec := { name := "slotsForm", fn := fun _ => fun
  | [d1, d2, d3] => { results := [.lit (.bool false)], args := [d1, d2, d3] }
  | _ => none }
def SlotsFormWrongFalsely : Prop := slotsFormRow.holds Tryd.pinned (OpenSpec.ofChange slotsFormWrong)

/-- 'bolelaw14.SlotsRefused': WHATEVER THE INPUT: true; the input reads as it did. -/
def slotsRefusedSpec : ChangeSpec := { name := "slotsRefused", fn := fun _ => fun
  | [d1, d2, d3] => { results := [.lit (.bool true)], args := [d1, d2, d3] }
  | _ => none }
def slotsRefusedRow : OpenClaim := { program := "ytgpkcakanieodaadoor", sum := "7504045d631ec9b7b135dc4ab5747a5abbb4fa5c006f1d7d23969cc245e61c18", func := "bole/bolelaw14.SlotsRefused", spec := "slotsRefused", inPlace := ["internal/bytealg.IndexByteString", "internal/bytealg.IndexString"], named := ["bole/rec.widths", "internal/bytealg.MaxLen"], apart := false, laid := [("bole/rec.widths", laid_bole_rec_widths)] }
def SlotsRefusedSaid : Prop := slotsRefusedRow.holds Tryd.pinned (OpenSpec.ofChange slotsRefusedSpec)

/-- ITS FALSE NEIGHBOUR: 'it returns false'. Refute it at one input. -/
def slotsRefusedWrong : ChangeSpec := { name := "slotsRefused", fn := fun _ => fun
  | [d1, d2, d3] => { results := [.lit (.bool false)], args := [d1, d2, d3] }
  | _ => none }
def SlotsRefusedWrongFalsely : Prop := slotsRefusedRow.holds Tryd.pinned (OpenSpec.ofChange slotsRefusedWrong)

/- THE SECOND FORM. 'bulk': how many values and letters a reading holds, each counted each time it is reached (what is shared counts as often as it is met; a slice's spare places count too). A statement '..UptoSaid' is the law's where the arguments, and the package variables that the reading takes, are together of bulk at most 1048576: NARROWER than '..Said'. Prove '..Said' where nothing that the law and all that it calls make is longer than what came in: it says more and counts as full. Else prove '..UptoSaid'. A law counts once. -/
mutual
def uptoBulk {H : Type} : DataW H → Nat
  | .lit (.string bytes) => bytes.length + 1
  | .lit _ => 1
  | .nil => 1
  | .ptr d => uptoBulk d + 1
  | .slice elems spare => uptoBulkAll elems + uptoBulkAll spare + 1
  | .agg parts => uptoBulkAll parts + 1
  | .iface _ d => uptoBulk d + 1
  | .map entries => uptoBulkEntries entries + 1
  | .held _ => 1
def uptoBulkAll {H : Type} : List (DataW H) → Nat
  | [] => 0
  | d :: r => uptoBulk d + uptoBulkAll r
def uptoBulkEntries {H : Type} : List (Lit × DataW H) → Nat
  | [] => 0
  | x :: r => uptoBulkEntry x + uptoBulkEntries r
def uptoBulkEntry {H : Type} : Lit × DataW H → Nat
  | (.string bytes, d) => bytes.length + uptoBulk d + 1
  | (_, d) => uptoBulk d + 1
 end
def uptoSmall : (H : Type) → List (DataW H) → Bool := fun _ ds => decide (uptoBulkAll ds ≤ 1048576)
def OpenSpec.upto (s : _root_.Go.ChangeSpec) : _root_.Go.OpenSpec := { _root_.Go.OpenSpec.ofChange s with cond := some uptoSmall }

/-- 'bolelaw14.SlotsPlays', WHERE WHAT IT READS IS OF BULK AT MOST 1048576: true; the input reads as it did. -/
def slotsPlaysUptoRow : OpenClaim := { program := "ytgpkcakanieodaadoor", sum := "7504045d631ec9b7b135dc4ab5747a5abbb4fa5c006f1d7d23969cc245e61c18", func := "bole/bolelaw14.SlotsPlays", spec := "slotsPlays", inPlace := ["internal/bytealg.IndexByteString", "internal/bytealg.IndexString"], named := ["bole/rec.widths", "internal/bytealg.MaxLen"], apart := false, laid := [("bole/rec.widths", laid_bole_rec_widths)], narrowed := true }
def SlotsPlaysUptoSaid : Prop := slotsPlaysUptoRow.holds Tryd.pinned (OpenSpec.upto slotsPlaysSpec)

/-- 'bolelaw14.SlotsReads', WHERE WHAT IT READS IS OF BULK AT MOST 1048576: true; the input reads as it did. -/
def slotsReadsUptoRow : OpenClaim := { program := "ytgpkcakanieodaadoor", sum := "7504045d631ec9b7b135dc4ab5747a5abbb4fa5c006f1d7d23969cc245e61c18", func := "bole/bolelaw14.SlotsReads", spec := "slotsReads", inPlace := ["internal/bytealg.IndexByteString", "internal/bytealg.IndexString"], named := ["bole/rec.widths", "internal/bytealg.MaxLen"], apart := false, laid := [("bole/rec.widths", laid_bole_rec_widths)], narrowed := true }
def SlotsReadsUptoSaid : Prop := slotsReadsUptoRow.holds Tryd.pinned (OpenSpec.upto slotsReadsSpec)

/-- 'bolelaw14.SlotsBack', WHERE WHAT IT READS IS OF BULK AT MOST 1048576: true; the input reads as it did. -/
def slotsBackUptoRow : OpenClaim := { program := "ytgpkcakanieodaadoor", sum := "7504045d631ec9b7b135dc4ab5747a5abbb4fa5c006f1d7d23969cc245e61c18", func := "bole/bolelaw14.SlotsBack", spec := "slotsBack", inPlace := ["internal/bytealg.IndexByteString", "internal/bytealg.IndexString"], named := ["bole/rec.widths", "internal/bytealg.MaxLen"], apart := false, laid := [("bole/rec.widths", laid_bole_rec_widths)], narrowed := true }
def SlotsBackUptoSaid : Prop := slotsBackUptoRow.holds Tryd.pinned (OpenSpec.upto slotsBackSpec)

/-- 'bolelaw14.SlotsForm', WHERE WHAT IT READS IS OF BULK AT MOST 1048576: true; the input reads as it did. -/
def slotsFormUptoRow : OpenClaim := { program := "ytgpkcakanieodaadoor", sum := "7504045d631ec9b7b135dc4ab5747a5abbb4fa5c006f1d7d23969cc245e61c18", func := "bole/bolelaw14.SlotsForm", spec := "slotsForm", inPlace := ["internal/bytealg.IndexByteString", "internal/bytealg.IndexString"], named := ["bole/rec.widths", "internal/bytealg.MaxLen"], apart := false, laid := [("bole/rec.widths", laid_bole_rec_widths)], narrowed := true }
def SlotsFormUptoSaid : Prop := slotsFormUptoRow.holds Tryd.pinned (OpenSpec.upto slotsFormSpec)

/-- 'bolelaw14.SlotsRefused', WHERE WHAT IT READS IS OF BULK AT MOST 1048576: true; the input reads as it did. -/
def slotsRefusedUptoRow : OpenClaim := { program := "ytgpkcakanieodaadoor", sum := "7504045d631ec9b7b135dc4ab5747a5abbb4fa5c006f1d7d23969cc245e61c18", func := "bole/bolelaw14.SlotsRefused", spec := "slotsRefused", inPlace := ["internal/bytealg.IndexByteString", "internal/bytealg.IndexString"], named := ["bole/rec.widths", "internal/bytealg.MaxLen"], apart := false, laid := [("bole/rec.widths", laid_bole_rec_widths)], narrowed := true }
def SlotsRefusedUptoSaid : Prop := slotsRefusedUptoRow.holds Tryd.pinned (OpenSpec.upto slotsRefusedSpec)

end Rows
end Go.Proofs.YtgpkcakanieodaaDoor
