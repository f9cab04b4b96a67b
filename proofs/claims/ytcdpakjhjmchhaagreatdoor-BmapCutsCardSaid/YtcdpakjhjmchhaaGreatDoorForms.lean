-- those that the claim uses
import Derived.Test.YtcdpakjhjmchhaaGreatDoorFormsA
import Derived.Test.YtcdpakjhjmchhaaGreatDoorFormsB
