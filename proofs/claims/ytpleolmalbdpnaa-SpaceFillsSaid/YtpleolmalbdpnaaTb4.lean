/-
  FACTS OF THIS PROGRAM THAT THE ROWS USE.
-/
import Derived.Test.YtpleolmalbdpnaaRows
import Derived.Test.YtpleolmalbdpnaaGlH
namespace Go.Proofs.Ytpleolmalbdpnaa
open Go Go.ChangeShapes Go.WideShapes Go.ChangeAt Go.RowKit Go.Proofs.Ytpleolmalbdpnaa.Wx Go.Proofs.Ytpleolmalbdpnaa.Hp Go.Proofs.Ytpleolmalbdpnaa.Gl

theorem Try.own : ownKnob Try.prog.godebug = none := by kernel_rfl
theorem Try.laidOut : laidOutB Try.prog = true := by kernel_rfl
end Go.Proofs.Ytpleolmalbdpnaa
