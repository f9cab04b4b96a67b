/-
  THE DISK of package adisk: Crash (see AdK).
-/
import Derived.Test.YtnbfaokpaiiojaaAdN
namespace Go.Proofs.Ytnbfaokpaiiojaa.Ad
open Go Go.Proofs Go.Proofs.Ytnbfaokpaiiojaa.Wx Go.Proofs.Ytnbfaokpaiiojaa.Hp Go.Proofs.Ytnbfaokpaiiojaa.W


end Go.Proofs.Ytnbfaokpaiiojaa.Ad
