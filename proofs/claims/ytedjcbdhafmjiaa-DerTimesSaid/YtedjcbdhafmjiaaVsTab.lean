/- Part of a framework that states what Go functions answer on values as data; it holds for every program of the model. -/
import Derived.Test.YtedjcbdhafmjiaaVsCore
namespace Go.VS
set_option linter.unusedVariables false
set_option linter.unusedSimpArgs false
set_option linter.unusedSectionVars false
open Go
/-- The tables of Go's library that the program reads, by their blocks: their cells. Here: none. -/
def tabLook : Nat → Option (List AV) := fun _ => none
end Go.VS
