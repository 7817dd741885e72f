/- The law Awake answers true. -/
import Derived.Test.YtijcpdgfbboamaaDoorVsCWhole
import Derived.Test.YtijcpdgfbboamaaDoorVsCValid
open Go Go.VS
namespace Go.Proofs.YtijcpdgfbboamaaDoor
set_option linter.unusedVariables false
set_option linter.unusedSimpArgs false
set_option maxRecDepth 20000
set_option maxHeartbeats 4000000
theorem valid_ok : ValidOk Go.Lib.validD := fun l hl => f44_ok l hl
theorem w1 : wholeS Go.Lib.validD [161, 1, 2] = (.mk 6 0 true [] false [.mk 1 1 true [] true [], .mk 1 2 true [] true []], 0) := by rfl
theorem w2 : (wholeS Go.Lib.validD [24, 23]) = (.zero, 22) := by rfl
theorem w3 : (wholeS Go.Lib.validD [162, 2, 0, 1, 0]) = (.zero, 21) := by rfl
theorem w4 : (wholeS Go.Lib.validD [247]) = (.zero, 20) := by rfl
theorem f17_ok : CallsP Tryd.prog 17 [] (.bool true) := by
  have c1 : CallsP Tryd.prog 21 [.sl none false 1 [.int .u8 161, .int .u8 1, .int .u8 2]] _ := f21_ok valid_ok false [161, 1, 2] (fun h => by cases h) (by decide)
  have c2 : CallsP Tryd.prog 21 [.sl none false 1 [.int .u8 24, .int .u8 23]] _ := f21_ok valid_ok false [24, 23] (fun h => by cases h) (by decide)
  have c3 : CallsP Tryd.prog 21 [.sl none false 1 [.int .u8 162, .int .u8 2, .int .u8 0, .int .u8 1, .int .u8 0]] _ := f21_ok valid_ok false [162, 2, 0, 1, 0] (fun h => by cases h) (by decide)
  have c4 : CallsP Tryd.prog 21 [.sl none false 1 [.int .u8 247]] _ := f21_ok valid_ok false [247] (fun h => by cases h) (by decide)
  rw [w1] at c1
  rw [w2] at c2
  rw [w3] at c3
  rw [w4] at c4
  simp only [av_mk, zero_av, List.map_cons, List.map_nil, List.isEmpty_cons, Int.cast_ofNat_Int] at c1 c2 c3 c4
  refine CallsP.intro Tryd.func17 rfl (by show 0 ≤ 62; decide) ?_
  rintro X hX
  have hn : X.n = 62 := hX
  unfold Tryd.f17
  dsimp only
  rw [entry0]
  repeat' first
    | with_reducible (first | refine AWP.seqA ?_ | refine AWP.seqB ?_ | refine AWP.block ?_ | refine AWP.skipN ?_ | refine AWP.skip ?_ | refine AWP.exit ?_ | refine AWP.ret ?_ | refine LoopN.succ ?_ | refine thenS_n ?_ | refine thenS_x ?_ | refine thenS_r ?_ | refine blockS_n ?_ | refine blockS_r ?_ | refine blockS_x ?_ | refine blockS_y (by decide) ?_)
    | ((with_reducible refine hK _ ?_); clear hK K) | ((with_reducible refine hKt ?_); clear hKt hKf Kt Kf) | ((with_reducible refine hKf ?_); clear hKt hKf Kt Kf) | ((with_reducible refine condP_split (fun hg => hKt ?_) (fun hg => hKf ?_)) <;> clear hKt hKf Kt Kf <;> (try simp only [List.length_take, List.length_drop, List.length_append, List.length_cons, List.length_nil, List.length_map, decide_eq_true_eq, decide_eq_false_iff_not, Bool.not_eq_true', Bool.not_eq_false', Int.not_lt, Int.not_le] at hg) <;> try (exfalso; omega))
    | ((first | with_reducible (first | refine retSB_ret [] ?_ | refine retSB_end [] ?_ | refine retSF_ret [] ?_ | refine retSF_end [] ?_)); simp -implicitDefEqProofs only [noE, noEL, noELL, frozT, frozTL, boxesOf, stALL, okB, okBL, okBLL, rnB, rnBL, rnBLL, posN, nodupN, bxIds, Int.cast_ofNat_Int, hn, mvcgen_simp, reduceIte, reduceCtorEq, Nat.reduceLT, Nat.reduceGT, Nat.reduceLeDiff, Nat.reduceAdd, Nat.reduceSub, Nat.reduceMul, Nat.reduceBEq, Int.reduceToNat, Int.reduceLT, Int.reduceLE, Int.reduceAdd, Int.reduceSub, Int.reduceMul, Int.reduceNeg, Int.reducePow, Int.reduceEq, Int.reduceNe, Nat.reduceEqDiff]; try simp (disch := omega) only [Int.tdiv_eq_ediv_of_nonneg, Int.tmod_eq_emod_of_nonneg, getD_take', bitop_or_256, Go.IntWalk.i64_in, Go.IntWalk.u8_in, Go.IntWalk.u64_in, Go.IntWalk.u32_in])
    | ((first | with_reducible (first | refine AWP.seqRB [0,1,2,4,6,8] fun K hK => ?_ | refine AWP.lastRB [0,1,2,4,6,8] fun K hK => ?_ | refine AWP.seqC fun Kt Kf hKt hKf => ?_ | refine AWP.condK fun Kt Kf hKt hKf => ?_ | refine retS_ret ?_ | refine retS_end ?_) | refine callE_P (c1) ?_ | refine callP_intro2 (c1) ?_ | refine callE_X (c1) ?_ | refine callE_P (c2) ?_ | refine callP_intro2 (c2) ?_ | refine callE_X (c2) ?_ | refine callE_P (c3) ?_ | refine callP_intro2 (c3) ?_ | refine callE_X (c3) ?_ | refine callE_P (c4) ?_ | refine callP_intro2 (c4) ?_ | refine callE_X (c4) ?_); simp -implicitDefEqProofs only [callSt, scalarAV, scalarL, posOf, posL, ansOk, ansOkL, ren3, ren3L, nm, List.nodup_cons, List.not_mem_nil, List.nodup_nil, List.mem_cons, Int.cast_ofNat_Int, hn, mvcgen_simp, reduceIte, reduceCtorEq, Nat.reduceLT, Nat.reduceGT, Nat.reduceLeDiff, Nat.reduceAdd, Nat.reduceSub, Nat.reduceMul, Nat.reduceBEq, Int.reduceToNat, Int.reduceLT, Int.reduceLE, Int.reduceAdd, Int.reduceSub, Int.reduceMul, Int.reduceNeg, Int.reducePow, Int.reduceEq, Int.reduceNe, Nat.reduceEqDiff]; try simp (disch := omega) only [Int.tdiv_eq_ediv_of_nonneg, Int.tmod_eq_emod_of_nonneg, getD_take', bitop_or_256, Go.IntWalk.i64_in, Go.IntWalk.u8_in, Go.IntWalk.u64_in, Go.IntWalk.u32_in])
    | ((with_reducible refine guardP_split (fun hg => ?_) (fun hg => ?_)) <;> simp -implicitDefEqProofs only [hg, Int.cast_ofNat_Int, hn, mvcgen_simp, reduceIte, reduceCtorEq, Nat.reduceLT, Nat.reduceGT, Nat.reduceLeDiff, Nat.reduceAdd, Nat.reduceSub, Nat.reduceMul, Nat.reduceBEq, Int.reduceToNat, Int.reduceLT, Int.reduceLE, Int.reduceAdd, Int.reduceSub, Int.reduceMul, Int.reduceNeg, Int.reducePow, Int.reduceEq, Int.reduceNe, Nat.reduceEqDiff] <;> (try simp (disch := omega) only [Int.tdiv_eq_ediv_of_nonneg, Int.tmod_eq_emod_of_nonneg, getD_take', bitop_or_256, Go.IntWalk.i64_in, Go.IntWalk.u8_in, Go.IntWalk.u64_in, Go.IntWalk.u32_in]) <;> try simp only [List.length_take, List.length_drop, List.length_append, List.length_cons, List.length_nil, List.length_map, decide_eq_true_eq, decide_eq_false_iff_not, Bool.not_eq_true', Bool.not_eq_false', Int.not_lt, Int.not_le] at hg)
    | with_reducible refine And.intro (by first | omega | (simp only [List.length_take, List.length_drop, List.length_append, List.length_cons, List.length_nil, List.length_map, List.length_replicate, List.length_set, List.length_range]; omega)) ?_
    | (exfalso; omega)
end Go.Proofs.YtijcpdgfbboamaaDoor
