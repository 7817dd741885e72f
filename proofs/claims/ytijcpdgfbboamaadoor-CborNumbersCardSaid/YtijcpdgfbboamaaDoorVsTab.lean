/- Part of a framework that states what Go functions answer on values as data; it holds for every program of the model. -/
import Derived.Test.YtijcpdgfbboamaaDoorVsCore
namespace Go.VS
set_option linter.unusedVariables false
set_option linter.unusedSimpArgs false
set_option linter.unusedSectionVars false
open Go
/-- unicode/utf8.first: of each first byte what stands in Go's table. -/
def firstN : List Nat :=
  List.replicate 128 240 ++ List.replicate 64 241 ++ List.replicate 2 241 ++ List.replicate 30 2 ++ [19] ++ List.replicate 12 3 ++ [35] ++ List.replicate 2 3 ++ [52] ++ List.replicate 3 4 ++ [68] ++ List.replicate 11 241
/-- unicode/utf8.acceptRanges: from where to where. -/
def acceptN : List Nat := [128, 191, 160, 191, 128, 159, 144, 191, 128, 143] ++ List.replicate 22 0
def n8 (n : Nat) : AV := .int .u8 (n : Int)
/-- The tables of Go's library that the program reads, by their blocks: their cells. -/
def tabLook : Nat → Option (List AV)
  | 0 => some (firstN.map n8)
  | 1 => some (acceptN.map n8)
  | _ => none
theorem tab0 : tabLook 0 = some (firstN.map n8) := rfl
theorem tab1 : tabLook 1 = some (acceptN.map n8) := rfl
end Go.VS
