-- all of them
import Derived.Test.YtnlmieklakolkaaDoorFormsA
import Derived.Test.YtnlmieklakolkaaDoorFormsB
import Derived.Test.YtnlmieklakolkaaDoorFormsC
import Derived.Test.YtnlmieklakolkaaDoorFormsD
import Derived.Test.YtnlmieklakolkaaDoorFormsE
