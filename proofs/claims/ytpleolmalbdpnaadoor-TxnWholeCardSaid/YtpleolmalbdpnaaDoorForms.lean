-- all of them
import Derived.Test.YtpleolmalbdpnaaDoorFormsA
import Derived.Test.YtpleolmalbdpnaaDoorFormsB
import Derived.Test.YtpleolmalbdpnaaDoorFormsC
import Derived.Test.YtpleolmalbdpnaaDoorFormsD
import Derived.Test.YtpleolmalbdpnaaDoorFormsE
