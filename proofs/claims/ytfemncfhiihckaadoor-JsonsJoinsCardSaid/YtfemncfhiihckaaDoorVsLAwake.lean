/- Awake of layer 5 answers true. -/
import Derived.Test.YtfemncfhiihckaaDoorVsJVal3
open Go Go.VS
namespace Go.Proofs.YtfemncfhiihckaaDoor
set_option linter.unusedVariables false
set_option linter.unusedSimpArgs false
set_option maxRecDepth 20000
set_option maxHeartbeats 4000000
theorem p1 : parseS [123, 34, 97, 34, 58, 32, 91, 49, 44, 32, 34, 120, 34, 93, 125] = ([⟨1, [], [[97]], [1]⟩, ⟨2, [], [], [2, 3]⟩, ⟨4, [49], [], []⟩, ⟨3, [120], [], []⟩], 0) := by kernel_rfl
theorem p2 : parseS [123, 34, 97, 34, 58, 49, 44, 34, 97, 34, 58, 50, 125] = ([], 12) := by kernel_rfl
theorem p3 : parseS [91, 48, 49, 93] = ([], 11) := by kernel_rfl
theorem c1 : CallsP Tryd.prog 17 [.sl none false 1 [.int .u8 123, .int .u8 34, .int .u8 97, .int .u8 34, .int .u8 58, .int .u8 32, .int .u8 91, .int .u8 49, .int .u8 44, .int .u8 32, .int .u8 34, .int .u8 120, .int .u8 34, .int .u8 93, .int .u8 125]]
    (.tup [.sl none false 4 [.agg [.int .u8 1, .str [], .sl none false 1 [.str [97]], .sl none false 1 [.int .i64 1]], .agg [.int .u8 2, .str [], .sl none true 1 [], .sl none false 1 [.int .i64 2, .int .i64 3]], .agg [.int .u8 4, .str [49], .sl none true 1 [], .sl none true 1 []], .agg [.int .u8 3, .str [120], .sl none true 1 [], .sl none true 1 []]], .int .i64 0]) := by
  have h := f17_ok [123, 34, 97, 34, 58, 32, 91, 49, 44, 32, 34, 120, 34, 93, 125] false
  rw [p1] at h
  exact h
theorem c2 : CallsP Tryd.prog 17 [.sl none false 1 [.int .u8 123, .int .u8 34, .int .u8 97, .int .u8 34, .int .u8 58, .int .u8 49, .int .u8 44, .int .u8 34, .int .u8 97, .int .u8 34, .int .u8 58, .int .u8 50, .int .u8 125]] (.tup [.sl none true 4 [], .int .i64 12]) := by
  have h := f17_ok [123, 34, 97, 34, 58, 49, 44, 34, 97, 34, 58, 50, 125] false
  rw [p2] at h
  exact h
theorem c3 : CallsP Tryd.prog 17 [.sl none false 1 [.int .u8 91, .int .u8 48, .int .u8 49, .int .u8 93]] (.tup [.sl none true 4 [], .int .i64 11]) := by
  have h := f17_ok [91, 48, 49, 93] false
  rw [p3] at h
  exact h
def k14_VsLAwake : List Nat := [0,1,2,4,6]
attribute [go_sem] k14_VsLAwake
theorem f14_ok : CallsP Tryd.prog 14 [] (.bool true) := by
  refine CallsP.intro Tryd.func14 rfl (by show 0 ≤ 63; decide) ?_
  rintro X hX
  have hn : X.n = 63 := hX
  unfold Tryd.f14
  dsimp only
  rw [entry0]
  repeat' first
   | with_reducible refine Rl.go (by constructor <;> decide) ?_
   | ((with_reducible first | refine hK _ ?_ | refine hK.1 ?_ | refine hK.2 ?_); clear hK K)
   | ((with_reducible refine condS hK (fun hg => ?_) fun hg => ?_) <;> clear hK K <;> (try simp only [hgW] at hg) <;> try (exfalso; omega))
   | ((first | ((with_reducible first | refine Rk.go k14_VsLAwake (by constructor) ?_); intro K hK) | with_reducible refine Rr.go [] (by constructor) ?_ | (with_reducible refine guardP_split (fun hg => ?_) fun hg => ?_) <;> (try simp only [hg]) <;> (try simp only [hgW] at hg) | refine Rc.go c1 (by constructor) ?_ | refine Rc.go c2 (by constructor) ?_ | refine Rc.go c3 (by constructor) ?_) <;> simp -implicitDefEqProofs only [hn, go_sem, simprocAttr] <;> try (simp (disch := omega) only [wrW]; try simp -implicitDefEqProofs only [hn, go_sem, simprocAttr]))
   | with_reducible refine And.intro (by first | omega | (simp only [hgW]; omega)) ?_
   | (exfalso; omega)
end Go.Proofs.YtfemncfhiihckaaDoor
