-- all of them
import Derived.Test.YtgpkcakanieodaaDoorFormsA
import Derived.Test.YtgpkcakanieodaaDoorFormsB
import Derived.Test.YtgpkcakanieodaaDoorFormsC
