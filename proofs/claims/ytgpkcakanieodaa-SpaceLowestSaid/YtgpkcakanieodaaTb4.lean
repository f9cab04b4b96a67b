/-
  FACTS OF THIS PROGRAM THAT THE ROWS USE.
-/
import Derived.Test.YtgpkcakanieodaaRows
import Derived.Test.YtgpkcakanieodaaGlH
namespace Go.Proofs.Ytgpkcakanieodaa
open Go Go.ChangeShapes Go.WideShapes Go.ChangeAt Go.RowKit Go.Proofs.Ytgpkcakanieodaa.Wx Go.Proofs.Ytgpkcakanieodaa.Hp Go.Proofs.Ytgpkcakanieodaa.Gl

theorem Try.own : ownKnob Try.prog.godebug = none := by kernel_rfl
theorem Try.laidOut : laidOutB Try.prog = true := by kernel_rfl
end Go.Proofs.Ytgpkcakanieodaa
