/- A text's signs that stand for themselves. -/
import Derived.Test.YtfemncfhiihckaaDoorVsTy
import Derived.Test.YtfemncfhiihckaaDoorVsTree
open Go Go.VS
namespace Go.Proofs.YtfemncfhiihckaaDoor
set_option linter.unusedVariables false
set_option linter.unusedSimpArgs false
set_option maxRecDepth 20000
set_option maxHeartbeats 4000000
def plStep (out : List UInt8) (c : Nat) : List UInt8 :=
  if 32 ≤ c ∧ c ≠ 34 ∧ c ≠ 92 ∧ c ≠ 65533 ∧ out.length < 40 then out ++ (Utf8.encode (c : Int)).data.toList else out
def plG (out : List UInt8) : List UInt8 → List UInt8
  | [] => out
  | c :: t => plG (plStep out (Go.Lib.decodeL (c :: t)).1) ((c :: t).drop (Go.Lib.decodeL (c :: t)).2)
  termination_by r => r.length
  decreasing_by
    have := Go.Lib.decodeL_width (c :: t)
    simp only [List.length_drop, List.length_cons]
    omega
def plainT (s : List UInt8) : List UInt8 := plG [] s
end Go.Proofs.YtfemncfhiihckaaDoor
open Go Go.VS
namespace Go.Proofs.YtfemncfhiihckaaDoor
set_option linter.unusedVariables false
set_option linter.unusedSimpArgs false
set_option maxRecDepth 20000
set_option maxHeartbeats 4000000
inductive GV where
  | mk (k : UInt8) (t : List UInt8) (kn : Bool) (ks : List GV)
def GV.k : GV → UInt8 | .mk k _ _ _ => k
def GV.t : GV → List UInt8 | .mk _ t _ _ => t
def GV.ks : GV → List GV | .mk _ _ _ ks => ks
instance : Inhabited GV := ⟨.mk 0 [] true []⟩
mutual
def GV.av : GV → AV
  | .mk k t kn ks => .agg [.int .u8 (k.toNat : Int), .str t, .sl none kn 3 (gvs ks)]
def gvs : List GV → List AV
  | [] => []
  | c :: cs => c.av :: gvs cs
end
def opT : Bool → UInt8 | true => 123 | false => 91
def shT : Bool → UInt8 | true => 125 | false => 93
def numsT : Nat → List UInt8
  | 0 => [48]
  | 1 => [45, 49, 50]
  | 2 => [49, 46, 53, 101, 43, 51]
  | _ => [49, 48, 69, 45, 50]
def leafT (m : Nat) (t : List UInt8) : List UInt8 :=
  match m with
  | 2 => [34] ++ plainT t ++ [34]
  | 3 => numsT (t.length % 4)
  | 4 => [116, 114, 117, 101]
  | 5 => [102, 97, 108, 115, 101]
  | _ => [110, 117, 108, 108]
end Go.Proofs.YtfemncfhiihckaaDoor
