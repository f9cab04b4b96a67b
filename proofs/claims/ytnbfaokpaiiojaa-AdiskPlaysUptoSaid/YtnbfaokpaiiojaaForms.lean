-- all of them
import Derived.Test.YtnbfaokpaiiojaaFormsA
import Derived.Test.YtnbfaokpaiiojaaFormsB
import Derived.Test.YtnbfaokpaiiojaaFormsC
import Derived.Test.YtnbfaokpaiiojaaFormsD
