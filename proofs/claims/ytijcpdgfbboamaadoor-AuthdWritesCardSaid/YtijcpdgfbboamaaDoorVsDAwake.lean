/- Awake is true. -/
import Derived.Test.YtijcpdgfbboamaaDoorVsDParse4
open Go Go.VS
namespace Go.Proofs.YtijcpdgfbboamaaDoor
set_option linter.unusedVariables false
set_option linter.unusedSimpArgs false
set_option maxRecDepth 20000
set_option maxHeartbeats 4000000
def k22_VsDAwake : List Nat := [0,1,2,4]
attribute [go_sem] k22_VsDAwake
theorem f22_ok {valid : List UInt8 → Bool} (hv : ValidOk valid) : CallsP Tryd.prog 22 [] (.bool true) := by
  have c1 := f24_ok hv false (z32 ++ [5, 0, 0, 0, 7]) (fun h => by cases h) (by decide)
  have c2 := f24_ok hv false (z32 ++ [7, 0, 0, 0, 7]) (fun h => by cases h) (by decide)
  have e1 : authS valid (z32 ++ [5, 0, 0, 0, 7]) = (⟨z32, true, true, false, 7, z16, true, [], .zero, .zero⟩, 0) := rfl
  have e2 : authS valid (z32 ++ [7, 0, 0, 0, 7]) = (.zero, 60) := rfl
  rw [e1] at c1
  rw [e2] at c2
  simp only [AD.av, AD.cells, AD.zero, z32_u8, z16_u8, cs_zero, List.cons_append, List.nil_append, List.map_append, List.map_nil] at c1 c2
  refine CallsP.intro Tryd.func22 rfl (by show 0 ≤ 43; decide) ?_
  rintro X hX
  have hn : X.n = 43 := hX
  unfold Tryd.f22
  dsimp only
  rw [entry0]
  repeat' first
   | with_reducible refine Rl.go (by constructor <;> decide) ?_
   | ((with_reducible first | refine hK _ ?_ | refine hK.1 ?_ | refine hK.2 ?_); clear hK K)
   | ((with_reducible refine condS hK (fun hg => ?_) fun hg => ?_) <;> clear hK K <;> (try simp only [hgW] at hg) <;> try (exfalso; omega))
   | ((first | ((with_reducible first | refine Rk.go k22_VsDAwake (by constructor) ?_); intro K hK) | with_reducible refine Rr.go [] (by constructor) ?_ | (with_reducible refine guardP_split (fun hg => ?_) fun hg => ?_) <;> (try simp only [hg]) <;> (try simp only [hgW] at hg) | refine Rc.go c1 (by constructor) ?_ | refine Rc.go c2 (by constructor) ?_) <;> simp -implicitDefEqProofs only [Int.cast_ofNat_Int, hn, go_sem, simprocAttr] <;> try (simp (disch := omega) only [wrW]; try simp -implicitDefEqProofs only [Int.cast_ofNat_Int, hn, go_sem, simprocAttr]))
   | with_reducible refine And.intro (by first | omega | (simp only [hgW]; omega)) ?_
   | (exfalso; omega)
end Go.Proofs.YtijcpdgfbboamaaDoor
