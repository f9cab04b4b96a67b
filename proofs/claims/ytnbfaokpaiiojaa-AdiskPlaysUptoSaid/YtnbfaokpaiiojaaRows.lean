/-
  No cell of these rows narrows 'for every input' (looked for: loops, veiled, ifaces, maps, wideKeys, modest, calm, conditions, laid).
  DERIVED. THE GIVEN ROWS OF THIS SEAT. 8 by the template 'for every input the law returns true; each argument reads behind the call as it read before'; 0 by the template 'total and deterministic' (their statements: YtnbfaokpaiiojaaTotals.lean).
  GIVEN WITH THE SEED: the statements are not yours to turn. If you find one false, say at which input.
  Laid BY PROGRAM, IN A SANDBOX (cutbox-rows.mjs): the forced cells as the released guide's own fill.sh prints them over the translation fcbfa44e72ef7def… (all of the seat's roots in one cut). By AI agents, Wed Nov 11 2026. No macro, syntax, notation, axiom, sorry.
-/
import Derived.Test.YtnbfaokpaiiojaaChecked
import GoSem.Claim
import GoSem.ClaimJoined
import GoSem.ClaimMapViews
import Derived.JoinedTies
import Derived.KernelRfl
namespace Go.Proofs.Ytnbfaokpaiiojaa
/- THE CELL 'sum', in the pinned program and in every row, IS THE sha256 OF THE DUMP (.gsa) THAT YtnbfaokpaiiojaaProg.lean LOADS. Nothing in Lean hashes anything: it is a label: what it is worth is what the hold of that sum in a sandbox is worth. -/
noncomputable def Try.pinned : Pinned := { name := "ytnbfaokpaiiojaa", sum := "fcbfa44e72ef7def7b2a34d72d1176a9a50ac3baa28c7cdd358f265e00e59799", checked := Try.checked }
namespace Rows
def none {H : Type} : Left H := { results := [], args := [] }

/-- 'bolelaw03.AdiskMakes': WHATEVER THE INPUT: true; the input reads as it did. -/
def adiskMakesSpec : ChangeSpec := { name := "adiskMakes", fn := fun _ => fun
  | [d1, d2] => { results := [.lit (.bool true)], args := [d1, d2] }
  | _ => none }
def adiskMakesRow : OpenClaim := { program := "ytnbfaokpaiiojaa", sum := "fcbfa44e72ef7def7b2a34d72d1176a9a50ac3baa28c7cdd358f265e00e59799", func := "bole/bolelaw03.AdiskMakes", spec := "adiskMakes", apart := false }
def AdiskMakesSaid : Prop := adiskMakesRow.holds Try.pinned (OpenSpec.ofChange adiskMakesSpec)

/-- ITS FALSE NEIGHBOUR: 'it returns false'. Refute it at one input. -/
def adiskMakesWrong : ChangeSpec := { name := "adiskMakes", fn := fun _ => fun
  | [d1, d2] => { results := [.lit (.bool false)], args := [d1, d2] }
  | _ => none }
def AdiskMakesWrongFalsely : Prop := adiskMakesRow.holds Try.pinned (OpenSpec.ofChange adiskMakesWrong)

/-- 'bolelaw03.AdiskLasts': WHATEVER THE INPUT: true; the input reads as it did. -/
def adiskLastsSpec : ChangeSpec := { name := "adiskLasts", fn := fun _ => fun
  | [d1, d2, d3] => { results := [.lit (.bool true)], args := [d1, d2, d3] }
  | _ => none }
def adiskLastsRow : OpenClaim := { program := "ytnbfaokpaiiojaa", sum := "fcbfa44e72ef7def7b2a34d72d1176a9a50ac3baa28c7cdd358f265e00e59799", func := "bole/bolelaw03.AdiskLasts", spec := "adiskLasts", unfollowed := true, recurses := true, apart := false }
def AdiskLastsSaid : Prop := adiskLastsRow.holds Try.pinned (OpenSpec.ofChange adiskLastsSpec)

/-- ITS FALSE NEIGHBOUR: 'it returns false'. Refute it at one input. -/
def adiskLastsWrong : ChangeSpec := { name := "adiskLasts", fn := fun _ => fun
  | [d1, d2, d3] => { results := [.lit (.bool false)], args := [d1, d2, d3] }
  | _ => none }
def AdiskLastsWrongFalsely : Prop := adiskLastsRow.holds Try.pinned (OpenSpec.ofChange adiskLastsWrong)

/-- 'bolelaw03.AdiskChosen': WHATEVER THE INPUT: true; the input reads as it did. -/
def adiskChosenSpec : ChangeSpec := { name := "adiskChosen", fn := fun _ => fun
  | [d1, d2, d3] => { results := [.lit (.bool true)], args := [d1, d2, d3] }
  | _ => none }
def adiskChosenRow : OpenClaim := { program := "ytnbfaokpaiiojaa", sum := "fcbfa44e72ef7def7b2a34d72d1176a9a50ac3baa28c7cdd358f265e00e59799", func := "bole/bolelaw03.AdiskChosen", spec := "adiskChosen", unfollowed := true, recurses := true, apart := false }
def AdiskChosenSaid : Prop := adiskChosenRow.holds Try.pinned (OpenSpec.ofChange adiskChosenSpec)

/-- ITS FALSE NEIGHBOUR: 'it returns false'. Refute it at one input. -/
def adiskChosenWrong : ChangeSpec := { name := "adiskChosen", fn := fun _ => fun
  | [d1, d2, d3] => { results := [.lit (.bool false)], args := [d1, d2, d3] }
  | _ => none }
def AdiskChosenWrongFalsely : Prop := adiskChosenRow.holds Try.pinned (OpenSpec.ofChange adiskChosenWrong)

/-- 'bolelaw03.AdiskRefused': WHATEVER THE INPUT: true; the input reads as it did. -/
def adiskRefusedSpec : ChangeSpec := { name := "adiskRefused", fn := fun _ => fun
  | [d1, d2, d3, d4] => { results := [.lit (.bool true)], args := [d1, d2, d3, d4] }
  | _ => none }
def adiskRefusedRow : OpenClaim := { program := "ytnbfaokpaiiojaa", sum := "fcbfa44e72ef7def7b2a34d72d1176a9a50ac3baa28c7cdd358f265e00e59799", func := "bole/bolelaw03.AdiskRefused", spec := "adiskRefused", unfollowed := true, recurses := true, apart := false }
def AdiskRefusedSaid : Prop := adiskRefusedRow.holds Try.pinned (OpenSpec.ofChange adiskRefusedSpec)

/-- ITS FALSE NEIGHBOUR: 'it returns false'. Refute it at one input. -/
def adiskRefusedWrong : ChangeSpec := { name := "adiskRefused", fn := fun _ => fun
  | [d1, d2, d3, d4] => { results := [.lit (.bool false)], args := [d1, d2, d3, d4] }
  | _ => none }
def AdiskRefusedWrongFalsely : Prop := adiskRefusedRow.holds Try.pinned (OpenSpec.ofChange adiskRefusedWrong)

/-- 'bolelaw03.AdiskAfters': WHATEVER THE INPUT: true; the input reads as it did. -/
def adiskAftersSpec : ChangeSpec := { name := "adiskAfters", fn := fun _ => fun
  | [d1, d2, d3] => { results := [.lit (.bool true)], args := [d1, d2, d3] }
  | _ => none }
def adiskAftersRow : OpenClaim := { program := "ytnbfaokpaiiojaa", sum := "fcbfa44e72ef7def7b2a34d72d1176a9a50ac3baa28c7cdd358f265e00e59799", func := "bole/bolelaw03.AdiskAfters", spec := "adiskAfters", unfollowed := true, recurses := true, apart := false }
def AdiskAftersSaid : Prop := adiskAftersRow.holds Try.pinned (OpenSpec.ofChange adiskAftersSpec)

/-- ITS FALSE NEIGHBOUR: 'it returns false'. Refute it at one input. -/
def adiskAftersWrong : ChangeSpec := { name := "adiskAfters", fn := fun _ => fun
  | [d1, d2, d3] => { results := [.lit (.bool false)], args := [d1, d2, d3] }
  | _ => none }
def AdiskAftersWrongFalsely : Prop := adiskAftersRow.holds Try.pinned (OpenSpec.ofChange adiskAftersWrong)

/-- 'bolelaw03.AdiskPlays': WHATEVER THE INPUT: true; the input reads as it did. -/
def adiskPlaysSpec : ChangeSpec := { name := "adiskPlays", fn := fun _ => fun
  | [d1, d2, d3] => { results := [.lit (.bool true)], args := [d1, d2, d3] }
  | _ => none }
def adiskPlaysRow : OpenClaim := { program := "ytnbfaokpaiiojaa", sum := "fcbfa44e72ef7def7b2a34d72d1176a9a50ac3baa28c7cdd358f265e00e59799", func := "bole/bolelaw03.AdiskPlays", spec := "adiskPlays", unfollowed := true, recurses := true, apart := false }
def AdiskPlaysSaid : Prop := adiskPlaysRow.holds Try.pinned (OpenSpec.ofChange adiskPlaysSpec)

/-- ITS FALSE NEIGHBOUR: 'it returns false'. Refute it at one input. -/
def adiskPlaysWrong : ChangeSpec := { name := "adiskPlays", fn := fun _ => fun
  | [d1, d2, d3] => { results := [.lit (.bool false)], args := [d1, d2, d3] }
  | _ => none }
def AdiskPlaysWrongFalsely : Prop := adiskPlaysRow.holds Try.pinned (OpenSpec.ofChange adiskPlaysWrong)

/-- 'bolelaw03.AdiskSplits': WHATEVER THE INPUT: true; the input reads as it did. -/
def adiskSplitsSpec : ChangeSpec := { name := "adiskSplits", fn := fun _ => fun
  | [d1, d2, d3, d4] => { results := [.lit (.bool true)], args := [d1, d2, d3, d4] }
  | _ => none }
def adiskSplitsRow : OpenClaim := { program := "ytnbfaokpaiiojaa", sum := "fcbfa44e72ef7def7b2a34d72d1176a9a50ac3baa28c7cdd358f265e00e59799", func := "bole/bolelaw03.AdiskSplits", spec := "adiskSplits", unfollowed := true, recurses := true, apart := false }
def AdiskSplitsSaid : Prop := adiskSplitsRow.holds Try.pinned (OpenSpec.ofChange adiskSplitsSpec)

/-- ITS FALSE NEIGHBOUR: 'it returns false'. Refute it at one input. -/
def adiskSplitsWrong : ChangeSpec := { name := "adiskSplits", fn := fun _ => fun
  | [d1, d2, d3, d4] => { results := [.lit (.bool false)], args := [d1, d2, d3, d4] }
  | _ => none }
def AdiskSplitsWrongFalsely : Prop := adiskSplitsRow.holds Try.pinned (OpenSpec.ofChange adiskSplitsWrong)

/-- 'bolelaw03.AdiskCuts': WHATEVER THE INPUT: true; the input reads as it did. -/
def adiskCutsSpec : ChangeSpec := { name := "adiskCuts", fn := fun _ => fun
  | [d1, d2, d3, d4] => { results := [.lit (.bool true)], args := [d1, d2, d3, d4] }
  | _ => none }
def adiskCutsRow : OpenClaim := { program := "ytnbfaokpaiiojaa", sum := "fcbfa44e72ef7def7b2a34d72d1176a9a50ac3baa28c7cdd358f265e00e59799", func := "bole/bolelaw03.AdiskCuts", spec := "adiskCuts", unfollowed := true, recurses := true, apart := false }
def AdiskCutsSaid : Prop := adiskCutsRow.holds Try.pinned (OpenSpec.ofChange adiskCutsSpec)

/-- ITS FALSE NEIGHBOUR: 'it returns false'. Refute it at one input. -/
def adiskCutsWrong : ChangeSpec := { name := "adiskCuts", fn := fun _ => fun
  | [d1, d2, d3, d4] => { results := [.lit (.bool false)], args := [d1, d2, d3, d4] }
  | _ => none }
def AdiskCutsWrongFalsely : Prop := adiskCutsRow.holds Try.pinned (OpenSpec.ofChange adiskCutsWrong)

/- THE SECOND FORM. 'bulk': how many values and letters a reading holds, each counted each time it is reached (what is shared counts as often as it is met; a slice's spare places count too). A statement '..UptoSaid' is the law's where the arguments, and the package variables that the reading takes, are together of bulk at most 1048576: NARROWER than '..Said'. Prove '..Said' where nothing that the law and all that it calls make is longer than what came in: it says more and counts as full. Else prove '..UptoSaid'. A law counts once. -/
mutual
def uptoBulk {H : Type} : DataW H → Nat
  | .lit (.string bytes) => bytes.length + 1
  | .lit _ => 1
  | .nil => 1
  | .ptr d => uptoBulk d + 1
  | .slice elems spare => uptoBulkAll elems + uptoBulkAll spare + 1
  | .agg parts => uptoBulkAll parts + 1
  | .iface _ d => uptoBulk d + 1
  | .map entries => uptoBulkEntries entries + 1
  | .held _ => 1
def uptoBulkAll {H : Type} : List (DataW H) → Nat
  | [] => 0
  | d :: r => uptoBulk d + uptoBulkAll r
def uptoBulkEntries {H : Type} : List (Lit × DataW H) → Nat
  | [] => 0
  | x :: r => uptoBulkEntry x + uptoBulkEntries r
def uptoBulkEntry {H : Type} : Lit × DataW H → Nat
  | (.string bytes, d) => bytes.length + uptoBulk d + 1
  | (_, d) => uptoBulk d + 1
 end
def uptoSmall : (H : Type) → List (DataW H) → Bool := fun _ ds => decide (uptoBulkAll ds ≤ 1048576)
def OpenSpec.upto (s : _root_.Go.ChangeSpec) : _root_.Go.OpenSpec := { _root_.Go.OpenSpec.ofChange s with cond := some uptoSmall }

/-- 'bolelaw03.AdiskMakes', WHERE WHAT IT READS IS OF BULK AT MOST 1048576: true; the input reads as it did. -/
def adiskMakesUptoRow : OpenClaim := { program := "ytnbfaokpaiiojaa", sum := "fcbfa44e72ef7def7b2a34d72d1176a9a50ac3baa28c7cdd358f265e00e59799", func := "bole/bolelaw03.AdiskMakes", spec := "adiskMakes", apart := false, narrowed := true }
def AdiskMakesUptoSaid : Prop := adiskMakesUptoRow.holds Try.pinned (OpenSpec.upto adiskMakesSpec)

/-- 'bolelaw03.AdiskLasts', WHERE WHAT IT READS IS OF BULK AT MOST 1048576: true; the input reads as it did. -/
def adiskLastsUptoRow : OpenClaim := { program := "ytnbfaokpaiiojaa", sum := "fcbfa44e72ef7def7b2a34d72d1176a9a50ac3baa28c7cdd358f265e00e59799", func := "bole/bolelaw03.AdiskLasts", spec := "adiskLasts", unfollowed := true, recurses := true, apart := false, narrowed := true }
def AdiskLastsUptoSaid : Prop := adiskLastsUptoRow.holds Try.pinned (OpenSpec.upto adiskLastsSpec)

/-- 'bolelaw03.AdiskChosen', WHERE WHAT IT READS IS OF BULK AT MOST 1048576: true; the input reads as it did. -/
def adiskChosenUptoRow : OpenClaim := { program := "ytnbfaokpaiiojaa", sum := "fcbfa44e72ef7def7b2a34d72d1176a9a50ac3baa28c7cdd358f265e00e59799", func := "bole/bolelaw03.AdiskChosen", spec := "adiskChosen", unfollowed := true, recurses := true, apart := false, narrowed := true }
def AdiskChosenUptoSaid : Prop := adiskChosenUptoRow.holds Try.pinned (OpenSpec.upto adiskChosenSpec)

/-- 'bolelaw03.AdiskRefused', WHERE WHAT IT READS IS OF BULK AT MOST 1048576: true; the input reads as it did. -/
def adiskRefusedUptoRow : OpenClaim := { program := "ytnbfaokpaiiojaa", sum := "fcbfa44e72ef7def7b2a34d72d1176a9a50ac3baa28c7cdd358f265e00e59799", func := "bole/bolelaw03.AdiskRefused", spec := "adiskRefused", unfollowed := true, recurses := true, apart := false, narrowed := true }
def AdiskRefusedUptoSaid : Prop := adiskRefusedUptoRow.holds Try.pinned (OpenSpec.upto adiskRefusedSpec)

/-- 'bolelaw03.AdiskAfters', WHERE WHAT IT READS IS OF BULK AT MOST 1048576: true; the input reads as it did. -/
def adiskAftersUptoRow : OpenClaim := { program := "ytnbfaokpaiiojaa", sum := "fcbfa44e72ef7def7b2a34d72d1176a9a50ac3baa28c7cdd358f265e00e59799", func := "bole/bolelaw03.AdiskAfters", spec := "adiskAfters", unfollowed := true, recurses := true, apart := false, narrowed := true }
def AdiskAftersUptoSaid : Prop := adiskAftersUptoRow.holds Try.pinned (OpenSpec.upto adiskAftersSpec)

/-- 'bolelaw03.AdiskPlays', WHERE WHAT IT READS IS OF BULK AT MOST 1048576: true; the input reads as it did. -/
def adiskPlaysUptoRow : OpenClaim := { program := "ytnbfaokpaiiojaa", sum := "fcbfa44e72ef7def7b2a34d72d1176a9a50ac3baa28c7cdd358f265e00e59799", func := "bole/bolelaw03.AdiskPlays", spec := "adiskPlays", unfollowed := true, recurses := true, apart := false, narrowed := true }
def AdiskPlaysUptoSaid : Prop := adiskPlaysUptoRow.holds Try.pinned (OpenSpec.upto adiskPlaysSpec)

/-- 'bolelaw03.AdiskSplits', WHERE WHAT IT READS IS OF BULK AT MOST 1048576: true; the input reads as it did. -/
def adiskSplitsUptoRow : OpenClaim := { program := "ytnbfaokpaiiojaa", sum := "fcbfa44e72ef7def7b2a34d72d1176a9a50ac3baa28c7cdd358f265e00e59799", func := "bole/bolelaw03.AdiskSplits", spec := "adiskSplits", unfollowed := true, recurses := true, apart := false, narrowed := true }
def AdiskSplitsUptoSaid : Prop := adiskSplitsUptoRow.holds Try.pinned (OpenSpec.upto adiskSplitsSpec)

/-- 'bolelaw03.AdiskCuts', WHERE WHAT IT READS IS OF BULK AT MOST 1048576: true; the input reads as it did. -/
def adiskCutsUptoRow : OpenClaim := { program := "ytnbfaokpaiiojaa", sum := "fcbfa44e72ef7def7b2a34d72d1176a9a50ac3baa28c7cdd358f265e00e59799", func := "bole/bolelaw03.AdiskCuts", spec := "adiskCuts", unfollowed := true, recurses := true, apart := false, narrowed := true }
def AdiskCutsUptoSaid : Prop := adiskCutsUptoRow.holds Try.pinned (OpenSpec.upto adiskCutsSpec)

end Rows
end Go.Proofs.Ytnbfaokpaiiojaa
