-- all of them
import Derived.Test.YtcdpakjhjmchhaaDoorFormsA
import Derived.Test.YtcdpakjhjmchhaaDoorFormsB
import Derived.Test.YtcdpakjhjmchhaaDoorFormsC
import Derived.Test.YtcdpakjhjmchhaaDoorFormsD
import Derived.Test.YtcdpakjhjmchhaaDoorFormsE
import Derived.Test.YtcdpakjhjmchhaaDoorFormsF
