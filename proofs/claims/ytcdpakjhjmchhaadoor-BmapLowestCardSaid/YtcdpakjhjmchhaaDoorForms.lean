-- those that the claim uses
import Derived.Test.YtcdpakjhjmchhaaDoorFormsA
import Derived.Test.YtcdpakjhjmchhaaDoorFormsB
