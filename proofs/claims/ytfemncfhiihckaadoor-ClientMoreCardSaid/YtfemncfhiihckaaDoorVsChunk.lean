/- Part of a framework that states what Go functions answer on values as data; it holds for every program of the model. -/
import Derived.Test.YtfemncfhiihckaaDoorVsSimp
namespace Go.VS
set_option linter.unusedVariables false
set_option linter.unusedSimpArgs false
set_option linter.unusedSectionVars false
open Go
theorem thL_ap (F : Stamp → Fate) : ∀ (x y : List AV), thL F (x ++ y) = thL F x ++ thL F y
  | [], _ => rfl
  | a :: x, y => by simp only [List.cons_append, thL, thL_ap F x y]
attribute [go_sem] thL_ap List.length_append
end Go.VS
