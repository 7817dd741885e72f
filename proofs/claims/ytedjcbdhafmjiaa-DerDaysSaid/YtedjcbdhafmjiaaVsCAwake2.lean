/- The law Awake answers true. -/
import Derived.Test.YtedjcbdhafmjiaaVsCRead
import Derived.Test.YtedjcbdhafmjiaaVsCFix2
import Derived.Test.YtedjcbdhafmjiaaVsCTime3
open Go Go.VS
namespace Go.Proofs.Ytedjcbdhafmjiaa
set_option linter.unusedVariables false
set_option linter.unusedSimpArgs false
set_option maxRecDepth 20000
set_option maxHeartbeats 4000000
theorem f40_c : CallsP Try.prog 40 [.sl none false 1 [.int .u8 48, .int .u8 3, .int .u8 2, .int .u8 1, .int .u8 5]] (.tup [.agg [.int .u8 48, .sl (some ((3,0),0)) false 1 [.int .u8 2, .int .u8 1, .int .u8 5]], .sl (some ((3,1),0)) false 1 [], .int .i64 0]) :=
  f40_ok [48, 3, 2, 1, 5]
theorem f29_c1 : CallsP Try.prog 29 [.agg [.int .u8 23, .sl none false 1 [.int .u8 53, .int .u8 48, .int .u8 48, .int .u8 49, .int .u8 48, .int .u8 49, .int .u8 48, .int .u8 48, .int .u8 48, .int .u8 48, .int .u8 48, .int .u8 48, .int .u8 90]]] (.tup [.int .u64 0, .int .i64 31]) := by
  have h := f29_ok 23 false [53, 48, 48, 49, 48, 49, 48, 48, 48, 48, 48, 48, 90]
  rw [show timeR 23 [53, 48, 48, 49, 48, 49, 48, 48, 48, 48, 48, 48, 90] = none by decide +kernel] at h
  exact h
theorem f29_c2 : CallsP Try.prog 29 [.agg [.int .u8 23, .sl none false 1 [.int .u8 55, .int .u8 48, .int .u8 48, .int .u8 49, .int .u8 48, .int .u8 49, .int .u8 48, .int .u8 48, .int .u8 48, .int .u8 48, .int .u8 48, .int .u8 49, .int .u8 90]]] (.tup [.int .u64 1, .int .i64 0]) := by
  have h := f29_ok 23 false [55, 48, 48, 49, 48, 49, 48, 48, 48, 48, 48, 49, 90]
  rw [show timeR 23 [55, 48, 48, 49, 48, 49, 48, 48, 48, 48, 48, 49, 90] = some 1 by decide +kernel] at h
  exact h
def k16_VsCAwake2 : List Nat := [0,1,2,3,5,6,7,8,9,11]
attribute [go_sem] k16_VsCAwake2
theorem f16_ok : CallsP Try.prog 16 [] (.bool true) := by
  refine CallsP.intro Try.func16 rfl (by show 0 ≤ 87; decide) ?_
  rintro X hX
  have hn : X.n = 87 := hX
  unfold Try.f16
  dsimp only
  rw [entry0]
  repeat' first
    | with_reducible (first | refine AWP.seqA ?_ | refine AWP.seqB ?_ | refine AWP.block ?_ | refine AWP.skipN ?_ | refine AWP.skip ?_ | refine AWP.exit ?_ | refine AWP.ret ?_ | refine AWP.loopT 3 ?_ | refine AWP.unroll 3 ?_ | refine LoopN.succ ?_ | refine thenS_n ?_ | refine thenS_x ?_ | refine thenS_r ?_ | refine blockS_n ?_ | refine blockS_r ?_ | refine blockS_x ?_ | refine blockS_y (by decide) ?_)
    | ((with_reducible refine hK _ ?_); clear hK K) | ((with_reducible refine hKt ?_); clear hKt hKf Kt Kf) | ((with_reducible refine hKf ?_); clear hKt hKf Kt Kf) | ((with_reducible refine condP_split (fun hg => hKt ?_) (fun hg => hKf ?_)) <;> clear hKt hKf Kt Kf <;> (try simp only [hgW] at hg) <;> try (exfalso; omega))
    | ((first | (with_reducible refine guardP_split (fun hg => ?_) (fun hg => ?_)) <;> simp -implicitDefEqProofs only [hg, Int.cast_ofNat_Int, Go.IntWalk.i64_in, Go.IntWalk.u8_in, Go.IntWalk.u64_in, minlit, bitslit, Int.reduceFDiv, Int.reduceTDiv, Int.reduceTMod, Int.reducePow, hn, go_sem, simprocAttr] <;> (try simp only [hgW] at hg) | ((first | with_reducible (first | refine AWP.seqRB k16_VsCAwake2 fun K hK => ?_ | refine AWP.lastRB k16_VsCAwake2 fun K hK => ?_ | refine AWP.seqC fun Kt Kf hKt hKf => ?_ | refine AWP.condK fun Kt Kf hKt hKf => ?_ | refine retS_ret ?_ | refine retS_end ?_) | refine callE_P (f40_c) ?_ | refine callP_intro2 (f40_c) ?_ | refine callE_X (f40_c) ?_ | refine callE_P (f20_c) ?_ | refine callP_intro2 (f20_c) ?_ | refine callE_X (f20_c) ?_ | refine callE_P (f24_c) ?_ | refine callP_intro2 (f24_c) ?_ | refine callE_X (f24_c) ?_ | refine callE_P (f29_c1) ?_ | refine callP_intro2 (f29_c1) ?_ | refine callE_X (f29_c1) ?_ | refine callE_P (f29_c2) ?_ | refine callP_intro2 (f29_c2) ?_ | refine callE_X (f29_c2) ?_); simp -implicitDefEqProofs only [Int.cast_ofNat_Int, Go.IntWalk.i64_in, Go.IntWalk.u8_in, Go.IntWalk.u64_in, minlit, bitslit, Int.reduceFDiv, Int.reduceTDiv, Int.reduceTMod, Int.reducePow, hn, go_sem, simprocAttr])) <;> try simp (disch := omega) only [wrW])
    | with_reducible refine And.intro (by first | omega | (simp only [hgW]; omega)) ?_
    | (exfalso; omega)
end Go.Proofs.Ytedjcbdhafmjiaa
