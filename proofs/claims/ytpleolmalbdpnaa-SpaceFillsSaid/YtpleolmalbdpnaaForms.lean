-- all of them
import Derived.Test.YtpleolmalbdpnaaFormsA
import Derived.Test.YtpleolmalbdpnaaFormsB
