/- What the row of one statement stands on: a store, abstract code, functions of the program and their laws (ThHdiskR2). -/
import Derived.Test.YtcdbfhamhcaclaaThBHdiskR
import Derived.Test.YtcdbfhamhcaclaaThBHlaw17a

section
/- Readings of scripts. -/
set_option linter.unusedVariables false
set_option linter.unusedSimpArgs false
namespace Go.Th.L
open Go Go.Th Go.Th.Pure

end Go.Th.L
end
