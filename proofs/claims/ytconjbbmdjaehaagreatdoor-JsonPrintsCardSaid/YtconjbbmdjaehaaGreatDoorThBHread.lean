/- What the row of one statement stands on: a store, abstract code, functions of the program and their laws (ThPfact, ThHread). -/
import Derived.Test.YtconjbbmdjaehaaGreatDoorThBHvar
import Derived.Lib.AtoiAllCases
import Derived.Lib.ItoaNum
import Derived.Test.YtconjbbmdjaehaaGreatDoorThBQ12

section
/- Plain: specs as texts, parsed and printed. -/
set_option linter.unusedSimpArgs false
set_option linter.unusedVariables false
namespace Go.Th.Pure
open Go Go.Th

abbrev Bs := List UInt8
def within (n m : Int) : Bool := decide (1 ≤ n ∧ n ≤ m)
end Go.Th.Pure
end

section
/- Readings of rows' arguments: texts, numbers, numbers in a row. -/
set_option linter.unusedVariables false
set_option linter.unusedSimpArgs false
namespace Go.Th.L
open Go Go.Th

end Go.Th.L
end
