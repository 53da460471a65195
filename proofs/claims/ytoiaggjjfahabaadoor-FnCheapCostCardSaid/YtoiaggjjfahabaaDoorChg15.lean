/- sameLists of the laws on two tables of the same numbers. Conditions: at most 1000 rows. -/
import Derived.Test.YtoiaggjjfahabaaDoorChg2
import Derived.Test.YtoiaggjjfahabaaDoorSumEq
import Derived.Test.YtoiaggjjfahabaaDoorPChg
import Derived.Deep.RegionLaw
namespace Go.Proofs.YtoiaggjjfahabaaDoor
open Go.RowKit
set_option linter.unusedVariables false
end Go.Proofs.YtoiaggjjfahabaaDoor
