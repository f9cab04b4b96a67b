-- all of them
import Derived.Test.YtgpkcakanieodaaFormsA
import Derived.Test.YtgpkcakanieodaaFormsB
import Derived.Test.YtgpkcakanieodaaFormsC
import Derived.Test.YtgpkcakanieodaaFormsD
