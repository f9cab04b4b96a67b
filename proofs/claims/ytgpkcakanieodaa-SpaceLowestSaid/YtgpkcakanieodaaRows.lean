/-
  No cell of these rows narrows 'for every input' (looked for: loops, veiled, ifaces, maps, wideKeys, modest, calm, conditions, laid).
  DERIVED. THE GIVEN ROWS OF THIS SEAT. 6 by the template 'for every input the law returns true; each argument reads behind the call as it read before'; 0 by the template 'total and deterministic' (their statements: YtgpkcakanieodaaTotals.lean).
  GIVEN WITH THE SEED: the statements are not yours to turn. If you find one false, say at which input.
  Laid BY PROGRAM, IN A SANDBOX (cutbox-rows.mjs): the forced cells as the released guide's own fill.sh prints them over the translation 5c3c912d9a8be1e7… (all of the seat's roots in one cut). By AI agents, Wed Nov 11 2026. No macro, syntax, notation, axiom, sorry.
-/
import Derived.Test.YtgpkcakanieodaaChecked
import GoSem.Claim
import GoSem.ClaimJoined
import GoSem.ClaimMapViews
import Derived.JoinedTies
import Derived.KernelRfl
namespace Go.Proofs.Ytgpkcakanieodaa
/- THE CELL 'sum', in the pinned program and in every row, IS THE sha256 OF THE DUMP (.gsa) THAT YtgpkcakanieodaaProg.lean LOADS. Nothing in Lean hashes anything: it is a label: what it is worth is what the hold of that sum in a sandbox is worth. -/
noncomputable def Try.pinned : Pinned := { name := "ytgpkcakanieodaa", sum := "5c3c912d9a8be1e78fbaa7cddefebffdbebfa3fc3e31628c1a0490dad98efc8f", checked := Try.checked }
namespace Rows
def none {H : Type} : Left H := { results := [], args := [] }

/-- 'bolelaw09.SpaceLowest': WHATEVER THE INPUT: true; the input reads as it did. -/
def spaceLowestSpec : ChangeSpec := { name := "spaceLowest", fn := fun _ => fun
  | [d1, d2] => { results := [.lit (.bool true)], args := [d1, d2] }
  | _ => none }
def spaceLowestRow : OpenClaim := { program := "ytgpkcakanieodaa", sum := "5c3c912d9a8be1e78fbaa7cddefebffdbebfa3fc3e31628c1a0490dad98efc8f", func := "bole/bolelaw09.SpaceLowest", spec := "spaceLowest", unfollowed := true, recurses := true, apart := false }
def SpaceLowestSaid : Prop := spaceLowestRow.holds Try.pinned (OpenSpec.ofChange spaceLowestSpec)

/-- ITS FALSE NEIGHBOUR: 'it returns false'. Refute it at one input. -/
def spaceLowestWrong : ChangeSpec := { name := "spaceLowest", fn := fun _ => fun
  | [d1, d2] => { results := [.lit (.bool false)], args := [d1, d2] }
  | _ => none }
def SpaceLowestWrongFalsely : Prop := spaceLowestRow.holds Try.pinned (OpenSpec.ofChange spaceLowestWrong)

/-- 'bolelaw13.PathExact': WHATEVER THE INPUT: true; the input reads as it did. -/
def pathExactSpec : ChangeSpec := { name := "pathExact", fn := fun _ => fun
  | [d1, d2] => { results := [.lit (.bool true)], args := [d1, d2] }
  | _ => none }
def pathExactRow : OpenClaim := { program := "ytgpkcakanieodaa", sum := "5c3c912d9a8be1e78fbaa7cddefebffdbebfa3fc3e31628c1a0490dad98efc8f", func := "bole/bolelaw13.PathExact", spec := "pathExact", inPlace := ["internal/bytealg.IndexByteString", "internal/bytealg.IndexString", "internal/abi.NoEscape", "internal/bytealg.MakeNoZero"], unfollowed := true, recurses := true, named := ["internal/bytealg.MaxLen"], apart := false }
def PathExactSaid : Prop := pathExactRow.holds Try.pinned (OpenSpec.ofChange pathExactSpec)

/-- ITS FALSE NEIGHBOUR: 'it returns false'. Refute it at one input. -/
def pathExactWrong : ChangeSpec := { name := "pathExact", fn := fun _ => fun
  | [d1, d2] => { results := [.lit (.bool false)], args := [d1, d2] }
  | _ => none }
def PathExactWrongFalsely : Prop := pathExactRow.holds Try.pinned (OpenSpec.ofChange pathExactWrong)

/-- 'bolelaw13.PathBack': WHATEVER THE INPUT: true; the input reads as it did. -/
def pathBackSpec : ChangeSpec := { name := "pathBack", fn := fun _ => fun
  | [d] => { results := [.lit (.bool true)], args := [d] }
  | _ => none }
def pathBackRow : OpenClaim := { program := "ytgpkcakanieodaa", sum := "5c3c912d9a8be1e78fbaa7cddefebffdbebfa3fc3e31628c1a0490dad98efc8f", func := "bole/bolelaw13.PathBack", spec := "pathBack", inPlace := ["internal/bytealg.IndexByteString", "internal/bytealg.IndexString", "internal/abi.NoEscape", "internal/bytealg.MakeNoZero"], unfollowed := true, recurses := true, named := ["internal/bytealg.MaxLen"], apart := false }
def PathBackSaid : Prop := pathBackRow.holds Try.pinned (OpenSpec.ofChange pathBackSpec)

/-- ITS FALSE NEIGHBOUR: 'it returns false'. Refute it at one input. -/
def pathBackWrong : ChangeSpec := { name := "pathBack", fn := fun _ => fun
  | [d] => { results := [.lit (.bool false)], args := [d] }
  | _ => none }
def PathBackWrongFalsely : Prop := pathBackRow.holds Try.pinned (OpenSpec.ofChange pathBackWrong)

/-- 'bolelaw13.PathSlashes': WHATEVER THE INPUT: true; the input reads as it did. -/
def pathSlashesSpec : ChangeSpec := { name := "pathSlashes", fn := fun _ => fun
  | [d1, d2] => { results := [.lit (.bool true)], args := [d1, d2] }
  | _ => none }
def pathSlashesRow : OpenClaim := { program := "ytgpkcakanieodaa", sum := "5c3c912d9a8be1e78fbaa7cddefebffdbebfa3fc3e31628c1a0490dad98efc8f", func := "bole/bolelaw13.PathSlashes", spec := "pathSlashes", inPlace := ["internal/bytealg.IndexByteString", "internal/bytealg.IndexString", "internal/abi.NoEscape", "internal/bytealg.MakeNoZero"], unfollowed := true, recurses := true, named := ["internal/bytealg.MaxLen"], apart := false }
def PathSlashesSaid : Prop := pathSlashesRow.holds Try.pinned (OpenSpec.ofChange pathSlashesSpec)

/-- ITS FALSE NEIGHBOUR: 'it returns false'. Refute it at one input. -/
def pathSlashesWrong : ChangeSpec := { name := "pathSlashes", fn := fun _ => fun
  | [d1, d2] => { results := [.lit (.bool false)], args := [d1, d2] }
  | _ => none }
def PathSlashesWrongFalsely : Prop := pathSlashesRow.holds Try.pinned (OpenSpec.ofChange pathSlashesWrong)

/-- 'bolelaw13.PathCleans': WHATEVER THE INPUT: true; the input reads as it did. -/
def pathCleansSpec : ChangeSpec := { name := "pathCleans", fn := fun _ => fun
  | [d] => { results := [.lit (.bool true)], args := [d] }
  | _ => none }
def pathCleansRow : OpenClaim := { program := "ytgpkcakanieodaa", sum := "5c3c912d9a8be1e78fbaa7cddefebffdbebfa3fc3e31628c1a0490dad98efc8f", func := "bole/bolelaw13.PathCleans", spec := "pathCleans", inPlace := ["internal/bytealg.IndexByteString", "internal/bytealg.IndexString", "internal/abi.NoEscape", "internal/bytealg.MakeNoZero"], unfollowed := true, recurses := true, named := ["internal/bytealg.MaxLen"], apart := false }
def PathCleansSaid : Prop := pathCleansRow.holds Try.pinned (OpenSpec.ofChange pathCleansSpec)

/-- ITS FALSE NEIGHBOUR: 'it returns false'. Refute it at one input. -/
def pathCleansWrong : ChangeSpec := { name := "pathCleans", fn := fun _ => fun
  | [d] => { results := [.lit (.bool false)], args := [d] }
  | _ => none }
def PathCleansWrongFalsely : Prop := pathCleansRow.holds Try.pinned (OpenSpec.ofChange pathCleansWrong)

/-- 'bolelaw13.PathOwn': WHATEVER THE INPUT: true; the input reads as it did. -/
def pathOwnSpec : ChangeSpec := { name := "pathOwn", fn := fun _ => fun
  | [d1, d2] => { results := [.lit (.bool true)], args := [d1, d2] }
  | _ => none }
def pathOwnRow : OpenClaim := { program := "ytgpkcakanieodaa", sum := "5c3c912d9a8be1e78fbaa7cddefebffdbebfa3fc3e31628c1a0490dad98efc8f", func := "bole/bolelaw13.PathOwn", spec := "pathOwn", inPlace := ["internal/bytealg.IndexByteString", "internal/bytealg.IndexString", "internal/abi.NoEscape", "internal/bytealg.MakeNoZero"], unfollowed := true, recurses := true, named := ["internal/bytealg.MaxLen"], apart := false }
def PathOwnSaid : Prop := pathOwnRow.holds Try.pinned (OpenSpec.ofChange pathOwnSpec)

/-- ITS FALSE NEIGHBOUR: 'it returns false'. Refute it at one input. -/
def pathOwnWrong : ChangeSpec := { name := "pathOwn", fn := fun _ => fun
  | [d1, d2] => { results := [.lit (.bool false)], args := [d1, d2] }
  | _ => none }
def PathOwnWrongFalsely : Prop := pathOwnRow.holds Try.pinned (OpenSpec.ofChange pathOwnWrong)

/- THE SECOND FORM. 'bulk': how many values and letters a reading holds, each counted each time it is reached (what is shared counts as often as it is met; a slice's spare places count too). A statement '..UptoSaid' is the law's where the arguments, and the package variables that the reading takes, are together of bulk at most 1048576: NARROWER than '..Said'. Prove '..Said' where nothing that the law and all that it calls make is longer than what came in: it says more and counts as full. Else prove '..UptoSaid'. A law counts once. -/
mutual
def uptoBulk {H : Type} : DataW H → Nat
  | .lit (.string bytes) => bytes.length + 1
  | .lit _ => 1
  | .nil => 1
  | .ptr d => uptoBulk d + 1
  | .slice elems spare => uptoBulkAll elems + uptoBulkAll spare + 1
  | .agg parts => uptoBulkAll parts + 1
  | .iface _ d => uptoBulk d + 1
  | .map entries => uptoBulkEntries entries + 1
  | .held _ => 1
def uptoBulkAll {H : Type} : List (DataW H) → Nat
  | [] => 0
  | d :: r => uptoBulk d + uptoBulkAll r
def uptoBulkEntries {H : Type} : List (Lit × DataW H) → Nat
  | [] => 0
  | x :: r => uptoBulkEntry x + uptoBulkEntries r
def uptoBulkEntry {H : Type} : Lit × DataW H → Nat
  | (.string bytes, d) => bytes.length + uptoBulk d + 1
  | (_, d) => uptoBulk d + 1
 end
def uptoSmall : (H : Type) → List (DataW H) → Bool := fun _ ds => decide (uptoBulkAll ds ≤ 1048576)
def OpenSpec.upto (s : _root_.Go.ChangeSpec) : _root_.Go.OpenSpec := { _root_.Go.OpenSpec.ofChange s with cond := some uptoSmall }

/-- 'bolelaw09.SpaceLowest', WHERE WHAT IT READS IS OF BULK AT MOST 1048576: true; the input reads as it did. -/
def spaceLowestUptoRow : OpenClaim := { program := "ytgpkcakanieodaa", sum := "5c3c912d9a8be1e78fbaa7cddefebffdbebfa3fc3e31628c1a0490dad98efc8f", func := "bole/bolelaw09.SpaceLowest", spec := "spaceLowest", unfollowed := true, recurses := true, apart := false, narrowed := true }
def SpaceLowestUptoSaid : Prop := spaceLowestUptoRow.holds Try.pinned (OpenSpec.upto spaceLowestSpec)

/-- 'bolelaw13.PathExact', WHERE WHAT IT READS IS OF BULK AT MOST 1048576: true; the input reads as it did. -/
def pathExactUptoRow : OpenClaim := { program := "ytgpkcakanieodaa", sum := "5c3c912d9a8be1e78fbaa7cddefebffdbebfa3fc3e31628c1a0490dad98efc8f", func := "bole/bolelaw13.PathExact", spec := "pathExact", inPlace := ["internal/bytealg.IndexByteString", "internal/bytealg.IndexString", "internal/abi.NoEscape", "internal/bytealg.MakeNoZero"], unfollowed := true, recurses := true, named := ["internal/bytealg.MaxLen"], apart := false, narrowed := true }
def PathExactUptoSaid : Prop := pathExactUptoRow.holds Try.pinned (OpenSpec.upto pathExactSpec)

/-- 'bolelaw13.PathBack', WHERE WHAT IT READS IS OF BULK AT MOST 1048576: true; the input reads as it did. -/
def pathBackUptoRow : OpenClaim := { program := "ytgpkcakanieodaa", sum := "5c3c912d9a8be1e78fbaa7cddefebffdbebfa3fc3e31628c1a0490dad98efc8f", func := "bole/bolelaw13.PathBack", spec := "pathBack", inPlace := ["internal/bytealg.IndexByteString", "internal/bytealg.IndexString", "internal/abi.NoEscape", "internal/bytealg.MakeNoZero"], unfollowed := true, recurses := true, named := ["internal/bytealg.MaxLen"], apart := false, narrowed := true }
def PathBackUptoSaid : Prop := pathBackUptoRow.holds Try.pinned (OpenSpec.upto pathBackSpec)

/-- 'bolelaw13.PathSlashes', WHERE WHAT IT READS IS OF BULK AT MOST 1048576: true; the input reads as it did. -/
def pathSlashesUptoRow : OpenClaim := { program := "ytgpkcakanieodaa", sum := "5c3c912d9a8be1e78fbaa7cddefebffdbebfa3fc3e31628c1a0490dad98efc8f", func := "bole/bolelaw13.PathSlashes", spec := "pathSlashes", inPlace := ["internal/bytealg.IndexByteString", "internal/bytealg.IndexString", "internal/abi.NoEscape", "internal/bytealg.MakeNoZero"], unfollowed := true, recurses := true, named := ["internal/bytealg.MaxLen"], apart := false, narrowed := true }
def PathSlashesUptoSaid : Prop := pathSlashesUptoRow.holds Try.pinned (OpenSpec.upto pathSlashesSpec)

/-- 'bolelaw13.PathCleans', WHERE WHAT IT READS IS OF BULK AT MOST 1048576: true; the input reads as it did. -/
def pathCleansUptoRow : OpenClaim := { program := "ytgpkcakanieodaa", sum := "5c3c912d9a8be1e78fbaa7cddefebffdbebfa3fc3e31628c1a0490dad98efc8f", func := "bole/bolelaw13.PathCleans", spec := "pathCleans", inPlace := ["internal/bytealg.IndexByteString", "internal/bytealg.IndexString", "internal/abi.NoEscape", "internal/bytealg.MakeNoZero"], unfollowed := true, recurses := true, named := ["internal/bytealg.MaxLen"], apart := false, narrowed := true }
def PathCleansUptoSaid : Prop := pathCleansUptoRow.holds Try.pinned (OpenSpec.upto pathCleansSpec)

/-- 'bolelaw13.PathOwn', WHERE WHAT IT READS IS OF BULK AT MOST 1048576: true; the input reads as it did. -/
def pathOwnUptoRow : OpenClaim := { program := "ytgpkcakanieodaa", sum := "5c3c912d9a8be1e78fbaa7cddefebffdbebfa3fc3e31628c1a0490dad98efc8f", func := "bole/bolelaw13.PathOwn", spec := "pathOwn", inPlace := ["internal/bytealg.IndexByteString", "internal/bytealg.IndexString", "internal/abi.NoEscape", "internal/bytealg.MakeNoZero"], unfollowed := true, recurses := true, named := ["internal/bytealg.MaxLen"], apart := false, narrowed := true }
def PathOwnUptoSaid : Prop := pathOwnUptoRow.holds Try.pinned (OpenSpec.upto pathOwnSpec)

end Rows
end Go.Proofs.Ytgpkcakanieodaa
