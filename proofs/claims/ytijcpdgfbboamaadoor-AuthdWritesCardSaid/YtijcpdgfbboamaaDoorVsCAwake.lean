/- The law Awake answers true. -/
import Derived.Test.YtijcpdgfbboamaaDoorVsCWhole
import Derived.Test.YtijcpdgfbboamaaDoorVsCValid
open Go Go.VS
namespace Go.Proofs.YtijcpdgfbboamaaDoor
set_option linter.unusedVariables false
set_option linter.unusedSimpArgs false
set_option maxRecDepth 20000
set_option maxHeartbeats 4000000
theorem valid_ok : ValidOk Go.Lib.validD := fun l hl => f44_ok l hl
theorem w1 : wholeS Go.Lib.validD [161, 1, 2] = (.mk 6 0 true [] false [.mk 1 1 true [] true [], .mk 1 2 true [] true []], 0) := by rfl
theorem w2 : (wholeS Go.Lib.validD [24, 23]) = (.zero, 22) := by rfl
theorem w3 : (wholeS Go.Lib.validD [162, 2, 0, 1, 0]) = (.zero, 21) := by rfl
theorem w4 : (wholeS Go.Lib.validD [247]) = (.zero, 20) := by rfl
def k17_VsCAwake : List Nat := [0,1,2,4,6,8]
attribute [go_sem] k17_VsCAwake
theorem f17_ok : CallsP Tryd.prog 17 [] (.bool true) := by
  have c1 : CallsP Tryd.prog 21 [.sl none false 1 [.int .u8 161, .int .u8 1, .int .u8 2]] _ := f21_ok valid_ok false [161, 1, 2] (fun h => by cases h) (by decide)
  have c2 : CallsP Tryd.prog 21 [.sl none false 1 [.int .u8 24, .int .u8 23]] _ := f21_ok valid_ok false [24, 23] (fun h => by cases h) (by decide)
  have c3 : CallsP Tryd.prog 21 [.sl none false 1 [.int .u8 162, .int .u8 2, .int .u8 0, .int .u8 1, .int .u8 0]] _ := f21_ok valid_ok false [162, 2, 0, 1, 0] (fun h => by cases h) (by decide)
  have c4 : CallsP Tryd.prog 21 [.sl none false 1 [.int .u8 247]] _ := f21_ok valid_ok false [247] (fun h => by cases h) (by decide)
  rw [w1] at c1
  rw [w2] at c2
  rw [w3] at c3
  rw [w4] at c4
  simp only [av_mk, zero_av, List.map_cons, List.map_nil, List.isEmpty_cons, Int.cast_ofNat_Int] at c1 c2 c3 c4
  refine CallsP.intro Tryd.func17 rfl (by show 0 ≤ 62; decide) ?_
  rintro X hX
  have hn : X.n = 62 := hX
  unfold Tryd.f17
  dsimp only
  rw [entry0]
  repeat' first
   | with_reducible refine Rl.go (by constructor <;> decide) ?_
   | ((with_reducible first | refine hK _ ?_ | refine hK.1 ?_ | refine hK.2 ?_); clear hK K)
   | ((with_reducible refine condS hK (fun hg => ?_) fun hg => ?_) <;> clear hK K <;> (try simp only [hgW] at hg) <;> try (exfalso; omega))
   | ((first | ((with_reducible first | refine Rk.go k17_VsCAwake (by constructor) ?_); intro K hK) | with_reducible refine Rr.go [] (by constructor) ?_ | (with_reducible refine guardP_split (fun hg => ?_) fun hg => ?_) <;> (try simp only [hg]) <;> (try simp only [hgW] at hg) | refine Rc.go c1 (by constructor) ?_ | refine Rc.go c2 (by constructor) ?_ | refine Rc.go c3 (by constructor) ?_ | refine Rc.go c4 (by constructor) ?_) <;> simp -implicitDefEqProofs only [Int.cast_ofNat_Int, hn, go_sem, simprocAttr] <;> try simp (disch := omega) only [wrW])
   | with_reducible refine And.intro (by first | omega | (simp only [hgW]; omega)) ?_
   | (exfalso; omega)
end Go.Proofs.YtijcpdgfbboamaaDoor
