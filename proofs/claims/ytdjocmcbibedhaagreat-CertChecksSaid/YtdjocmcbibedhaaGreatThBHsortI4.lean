/- What the row of one statement stands on: a store, abstract code, functions of the program and their laws (ThHsortI4). -/
import Derived.Test.YtdjocmcbibedhaaGreatThBHsort1
import Derived.Test.YtdjocmcbibedhaaGreatThBHsortI3

section
/- slices.Sort's breakPatterns at numbers; Sort itself. -/
set_option linter.unusedSimpArgs false
set_option linter.unusedVariables false
set_option linter.unusedSectionVars false
namespace Go.Th.L.I
open Go Go.Th Go.Th.L Go.Th.Pure Go.Sort
variable {P : Program} {N : Nat → Nat}

end Go.Th.L.I
end
