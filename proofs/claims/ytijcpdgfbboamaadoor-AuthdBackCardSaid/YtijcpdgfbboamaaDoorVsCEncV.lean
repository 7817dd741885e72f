/- A text's bytes, nil or not, are tried as they are. -/
import Derived.Test.YtijcpdgfbboamaaDoorVsCEncT
import Derived.Test.YtijcpdgfbboamaaDoorVsCAwake
open Go Go.VS
namespace Go.Proofs.YtijcpdgfbboamaaDoor
set_option linter.unusedVariables false
set_option linter.unusedSimpArgs false
set_option maxRecDepth 20000
set_option maxHeartbeats 4000000
def k44_VsCEncV : List Nat := [0,2,3,4,5,6,15,20,31,46,69,82,83,103,106,138,141,185]
def a44_8_VsCEncV : List Nat := [0,1,3,7,15,31,15,79,255,511,1023,2047,4095]
def o44_8_VsCEncV : List Nat := [0,1,2,3,4,5,6,7,8,9,10,11,12]
def a44_10_VsCEncV : List Nat := [0,1,3,7,15,31,15,79,255,511,15,1039,3583,15,8207,32255,65023,131071,262143,524287,1048575]
def o44_10_VsCEncV : List Nat := [0,1,2,3,4,5,6,7,8,10,11,12,13,14,15,9,16,17,18,19,20]
def a44_18_VsCEncV : List Nat := [0,1,3,7,15,31,63,15,143,511,1023,2047,4095,8191,4095,20479,53247,131071,262143]
def o44_18_VsCEncV : List Nat := [0,1,2,3,4,5,6,7,8,9,10,11,12,13,14,15,16,17,18]
def a44_22_VsCEncV : List Nat := [0,1,3,7,15,31,63,15,143,511,1023,2047,4095,8191,4095,20479,53247,131071,262143,524287,1048575,2097151,4194303,8388607,16777215,33554431,67108863,134217727,268435455,536870911,1073741823]
def o44_22_VsCEncV : List Nat := [0,1,2,3,4,5,6,7,8,9,10,11,12,13,14,15,16,17,18,19,20,21,22,23,24,25,26,27,28,29,30]
def a44_26_VsCEncV : List Nat := [0,1,3,7,15,31,63,15,143,511,1023,2047,4095,8191,4095,20479,53247,131071,262143,524287,1048575,2097151,4194303,8388607,16777215,33554431,67108863,134217727,268435455,536870911,1073741823,2147483647,4294967295,8589934591,17179869183,34359738367,68719476735,137438953471,274877906943,549755813887,1099511627775,2199023255551,4398046511103]
def o44_26_VsCEncV : List Nat := [0,1,2,3,4,5,6,7,8,9,10,11,12,13,14,15,16,17,18,19,20,21,22,23,24,25,26,27,28,29,30,31,32,33,34,35,36,37,38,39,40,41,42]
attribute [go_sem] k44_VsCEncV a44_8_VsCEncV o44_8_VsCEncV a44_10_VsCEncV o44_10_VsCEncV a44_18_VsCEncV o44_18_VsCEncV a44_22_VsCEncV o44_22_VsCEncV a44_26_VsCEncV o44_26_VsCEncV
theorem f44_nil : CallsP Tryd.prog 44 [.sl none true 1 []] (.bool true) := by
  refine CallsP.intro Tryd.func44 rfl (by show 1 ≤ 188; decide) ?_
  rintro X hX
  have hn : X.n = 188 := hX
  unfold Tryd.f44
  dsimp only
  rw [entry1]
  repeat' first
   | with_reducible (first | refine Rl.go (by constructor <;> decide) ?_ | refine AWP.loopT 1 ?_ | refine AWP.unroll 1 ?_)
   | ((with_reducible first | refine hK _ ?_ | refine hK.1 ?_ | refine hK.2 ?_); clear hK K)
   | ((with_reducible refine condS hK (fun hg => ?_) fun hg => ?_) <;> clear hK K <;> (try simp only [hgW] at hg) <;> try (exfalso; omega))
   | ((first | ((with_reducible first | refine Rk.go k44_VsCEncV (by constructor) ?_ | refine Rd.go 8 k44_VsCEncV a44_8_VsCEncV o44_8_VsCEncV mixed (by constructor) (by kernel_rfl) (by kernel_rfl) ?_ | refine Rd.go 10 k44_VsCEncV a44_10_VsCEncV o44_10_VsCEncV mixed (by constructor) (by kernel_rfl) (by kernel_rfl) ?_ | refine Rd.go 18 k44_VsCEncV a44_18_VsCEncV o44_18_VsCEncV mixed (by constructor) (by kernel_rfl) (by kernel_rfl) ?_ | refine Rd.go 22 k44_VsCEncV a44_22_VsCEncV o44_22_VsCEncV mixed (by constructor) (by kernel_rfl) (by kernel_rfl) ?_ | refine Rd.go 26 k44_VsCEncV a44_26_VsCEncV o44_26_VsCEncV mixed (by constructor) (by kernel_rfl) (by kernel_rfl) ?_); intro K hK) | with_reducible refine Rr.go [] (by constructor) ?_ | (with_reducible refine guardP_split (fun hg => ?_) fun hg => ?_) <;> (try simp only [hg]) <;> (try simp only [hgW] at hg)) <;> simp -implicitDefEqProofs only [Int.cast_ofNat_Int, hn, go_sem, simprocAttr] <;> try simp (disch := omega) only [wrW])
   | with_reducible refine And.intro (by first | omega | (simp only [hgW]; omega)) ?_
   | (exfalso; omega)
theorem validI : ValidI Go.Lib.validD := by
  intro x hx
  obtain ⟨h1, h2, h3, h4, h5⟩ := hx
  obtain ⟨ki, ni, bni, bi, kni, kids⟩ := x
  simp only [CI.bn, CI.b] at *
  cases bni with
  | false => exact f44_ok bi h3
  | true =>
    obtain rfl := h5 rfl
    exact f44_nil
end Go.Proofs.YtijcpdgfbboamaaDoor
