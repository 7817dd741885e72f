/- What reading one item comes to, and reading bytes. -/
import Derived.Test.YtijcpdgfbboamaaDoorVsCItem2
open Go Go.VS
namespace Go.Proofs.YtijcpdgfbboamaaDoor
set_option linter.unusedVariables false
set_option linter.unusedSimpArgs false
set_option maxRecDepth 20000
set_option maxHeartbeats 4000000
theorem f39_many (valid : List UInt8 → Bool) (deep : Nat) (s : RS) (nb : Bool) (hi : s.items ≤ 10000) (hm : 512 < s.items + 1) :
    CallsB Tryd.prog 39 [.ptr 1000000 0, .int .i64 (deep : Int)] [s.cells nb] CI.zero.av [(({ s with items := s.items + 1 } : RS).fail 14).cells nb] := by
  obtain ⟨b, items, err⟩ := s
  simp only at *
  have c49 := f49_ok ⟨b, items + 1, err⟩ nb 14
  have e1 : (items : Int) + 1 = ((items + 1 : Nat) : Int) := by omega
  refine CallsB.introF Tryd.func39 rfl (by show 2 ≤ 82; decide) ?_
  rintro X hX
  have hn : X.n = 82 := hX
  unfold Tryd.f39
  dsimp only
  rw [entryB21]
  repeat' first
    | with_reducible (first | refine AWP.seqA ?_ | refine AWP.seqB ?_ | refine AWP.block ?_ | refine AWP.skipN ?_ | refine AWP.skip ?_ | refine AWP.exit ?_ | refine AWP.ret ?_ | refine LoopN.succ ?_ | refine thenS_n ?_ | refine thenS_x ?_ | refine thenS_r ?_ | refine blockS_n ?_ | refine blockS_r ?_ | refine blockS_x ?_ | refine blockS_y (by decide) ?_)
    | ((with_reducible refine hK _ ?_); clear hK K) | ((with_reducible refine hKt ?_); clear hKt hKf Kt Kf) | ((with_reducible refine hKf ?_); clear hKt hKf Kt Kf) | ((with_reducible refine condP_split (fun hg => hKt ?_) (fun hg => hKf ?_)) <;> clear hKt hKf Kt Kf <;> (try simp only [List.length_take, List.length_drop, List.length_append, List.length_cons, List.length_nil, List.length_map, decide_eq_true_eq, decide_eq_false_iff_not, Bool.not_eq_true', Bool.not_eq_false', Int.not_lt, Int.not_le] at hg) <;> try (exfalso; omega))
    | ((with_reducible refine callE_B3 (c49) ?_); simp -implicitDefEqProofs only [eqOk_true, eqLent_mk, lendSt, backSt, baseOf, tgt, boxesOf, posLL, posL, posOf, ansB, ansBL, ansBLL, stALL, okB, okBL, okBLL, rnB, rnBL, rnBLL, posN, nodupN, addN_nil, addN_cons, ptrsA, ptrsL, reach, inBoxes, St.killL_nil, St.killL_mk, St.newsT_nil, St.newsT_mk, setBs_nil, setBs_cons, backA, backL, bxIds, nm, St.tname, List.filter_cons, List.filter_nil, List.getD_cons_succ, List.isEmpty_nil, List.isEmpty_cons, List.nil_append, RS.cells, zero_av, e1, Int.cast_ofNat_Int, hn, mvcgen_simp, reduceIte, reduceCtorEq, Nat.reduceLT, Nat.reduceGT, Nat.reduceLeDiff, Nat.reduceAdd, Nat.reduceSub, Nat.reduceMul, Nat.reduceBEq, Int.reduceToNat, Int.reduceLT, Int.reduceLE, Int.reduceAdd, Int.reduceSub, Int.reduceMul, Int.reduceNeg, Int.reducePow, Int.reduceEq, Int.reduceNe, Nat.reduceEqDiff]; (skip; try simp (disch := omega) only [Int.tdiv_eq_ediv_of_nonneg, Int.tmod_eq_emod_of_nonneg, getD_take', bitop_or_256, Go.IntWalk.i64_in, Go.IntWalk.u8_in, Go.IntWalk.u64_in, Go.IntWalk.u32_in]); fail_if_success (with_reducible refine eqOk_mk ?_))
    | ((first | with_reducible (first | refine retSB_ret [] ?_ | refine retSB_end [] ?_ | refine retSF_ret [] ?_ | refine retSF_end [] ?_)); simp -implicitDefEqProofs only [noE, noEL, noELL, frozT, frozTL, boxesOf, stALL, okB, okBL, okBLL, rnB, rnBL, rnBLL, posN, nodupN, bxIds, RS.cells, zero_av, e1, Int.cast_ofNat_Int, hn, mvcgen_simp, reduceIte, reduceCtorEq, Nat.reduceLT, Nat.reduceGT, Nat.reduceLeDiff, Nat.reduceAdd, Nat.reduceSub, Nat.reduceMul, Nat.reduceBEq, Int.reduceToNat, Int.reduceLT, Int.reduceLE, Int.reduceAdd, Int.reduceSub, Int.reduceMul, Int.reduceNeg, Int.reducePow, Int.reduceEq, Int.reduceNe, Nat.reduceEqDiff]; try simp (disch := omega) only [Int.tdiv_eq_ediv_of_nonneg, Int.tmod_eq_emod_of_nonneg, getD_take', bitop_or_256, Go.IntWalk.i64_in, Go.IntWalk.u8_in, Go.IntWalk.u64_in, Go.IntWalk.u32_in])
    | ((first | with_reducible (first | refine AWP.seqRB [0,1,4,5,6,18,30,32,33,37,41,48,52,56,67,74] fun K hK => ?_ | refine AWP.lastRB [0,1,4,5,6,18,30,32,33,37,41,48,52,56,67,74] fun K hK => ?_ | refine AWP.seqC fun Kt Kf hKt hKf => ?_ | refine AWP.condK fun Kt Kf hKt hKf => ?_ | refine retS_ret ?_ | refine retS_end ?_)); simp -implicitDefEqProofs only [callSt, scalarAV, scalarL, posOf, posL, ansOk, ansOkL, ren3, ren3L, nm, List.nodup_cons, List.not_mem_nil, List.nodup_nil, List.mem_cons, RS.cells, zero_av, e1, Int.cast_ofNat_Int, hn, mvcgen_simp, reduceIte, reduceCtorEq, Nat.reduceLT, Nat.reduceGT, Nat.reduceLeDiff, Nat.reduceAdd, Nat.reduceSub, Nat.reduceMul, Nat.reduceBEq, Int.reduceToNat, Int.reduceLT, Int.reduceLE, Int.reduceAdd, Int.reduceSub, Int.reduceMul, Int.reduceNeg, Int.reducePow, Int.reduceEq, Int.reduceNe, Nat.reduceEqDiff]; try simp (disch := omega) only [Int.tdiv_eq_ediv_of_nonneg, Int.tmod_eq_emod_of_nonneg, getD_take', bitop_or_256, Go.IntWalk.i64_in, Go.IntWalk.u8_in, Go.IntWalk.u64_in, Go.IntWalk.u32_in])
    | ((with_reducible refine guardP_split (fun hg => ?_) (fun hg => ?_)) <;> simp -implicitDefEqProofs only [hg, RS.cells, zero_av, e1, Int.cast_ofNat_Int, hn, mvcgen_simp, reduceIte, reduceCtorEq, Nat.reduceLT, Nat.reduceGT, Nat.reduceLeDiff, Nat.reduceAdd, Nat.reduceSub, Nat.reduceMul, Nat.reduceBEq, Int.reduceToNat, Int.reduceLT, Int.reduceLE, Int.reduceAdd, Int.reduceSub, Int.reduceMul, Int.reduceNeg, Int.reducePow, Int.reduceEq, Int.reduceNe, Nat.reduceEqDiff] <;> (try simp (disch := omega) only [Int.tdiv_eq_ediv_of_nonneg, Int.tmod_eq_emod_of_nonneg, getD_take', bitop_or_256, Go.IntWalk.i64_in, Go.IntWalk.u8_in, Go.IntWalk.u64_in, Go.IntWalk.u32_in]) <;> try simp only [List.length_take, List.length_drop, List.length_append, List.length_cons, List.length_nil, List.length_map, decide_eq_true_eq, decide_eq_false_iff_not, Bool.not_eq_true', Bool.not_eq_false', Int.not_lt, Int.not_le] at hg)
    | with_reducible refine And.intro (by first | omega | (simp only [List.length_take, List.length_drop, List.length_append, List.length_cons, List.length_nil, List.length_map, List.length_replicate, List.length_set, List.length_range]; omega)) ?_
    | (exfalso; omega)
theorem f39_err (deep : Nat) (b b' : List UInt8) (items err err' : Nat) (kind n : Nat) (nb : Bool) (hi : items ≤ 511) (he : err' ≠ 0)
    (c50 : CallsB Tryd.prog 50 [.ptr 1000000 0] [(RS.mk b (items + 1) err).cells nb] (.tup [.int .u8 (kind : Int), .int .u64 (n : Int)]) [(RS.mk b' (items + 1) err').cells nb]) :
    CallsB Tryd.prog 39 [.ptr 1000000 0, .int .i64 (deep : Int)] [(RS.mk b items err).cells nb] CI.zero.av [(RS.mk b' (items + 1) err').cells nb] := by
  have e1 : (items : Int) + 1 = ((items + 1 : Nat) : Int) := by omega
  refine CallsB.introF Tryd.func39 rfl (by show 2 ≤ 82; decide) ?_
  rintro X hX
  have hn : X.n = 82 := hX
  unfold Tryd.f39
  dsimp only
  rw [entryB21]
  repeat' first
    | with_reducible (first | refine AWP.seqA ?_ | refine AWP.seqB ?_ | refine AWP.block ?_ | refine AWP.skipN ?_ | refine AWP.skip ?_ | refine AWP.exit ?_ | refine AWP.ret ?_ | refine LoopN.succ ?_ | refine thenS_n ?_ | refine thenS_x ?_ | refine thenS_r ?_ | refine blockS_n ?_ | refine blockS_r ?_ | refine blockS_x ?_ | refine blockS_y (by decide) ?_)
    | ((with_reducible refine hK _ ?_); clear hK K) | ((with_reducible refine hKt ?_); clear hKt hKf Kt Kf) | ((with_reducible refine hKf ?_); clear hKt hKf Kt Kf) | ((with_reducible refine condP_split (fun hg => hKt ?_) (fun hg => hKf ?_)) <;> clear hKt hKf Kt Kf <;> (try simp only [List.length_take, List.length_drop, List.length_append, List.length_cons, List.length_nil, List.length_map, decide_eq_true_eq, decide_eq_false_iff_not, Bool.not_eq_true', Bool.not_eq_false', Int.not_lt, Int.not_le] at hg) <;> try (exfalso; omega))
    | ((with_reducible refine callE_B3 (c50) ?_); simp -implicitDefEqProofs only [eqOk_true, eqLent_mk, lendSt, backSt, baseOf, tgt, boxesOf, posLL, posL, posOf, ansB, ansBL, ansBLL, stALL, okB, okBL, okBLL, rnB, rnBL, rnBLL, posN, nodupN, addN_nil, addN_cons, ptrsA, ptrsL, reach, inBoxes, St.killL_nil, St.killL_mk, St.newsT_nil, St.newsT_mk, setBs_nil, setBs_cons, backA, backL, bxIds, nm, St.tname, List.filter_cons, List.filter_nil, List.getD_cons_succ, List.isEmpty_nil, List.isEmpty_cons, List.nil_append, RS.cells, av_mk, zero_av, e1, Int.cast_ofNat_Int, hn, mvcgen_simp, reduceIte, reduceCtorEq, Nat.reduceLT, Nat.reduceGT, Nat.reduceLeDiff, Nat.reduceAdd, Nat.reduceSub, Nat.reduceMul, Nat.reduceBEq, Int.reduceToNat, Int.reduceLT, Int.reduceLE, Int.reduceAdd, Int.reduceSub, Int.reduceMul, Int.reduceNeg, Int.reducePow, Int.reduceEq, Int.reduceNe, Nat.reduceEqDiff]; (skip; try simp (disch := omega) only [Int.tdiv_eq_ediv_of_nonneg, Int.tmod_eq_emod_of_nonneg, getD_take', bitop_or_256, Go.IntWalk.i64_in, Go.IntWalk.u8_in, Go.IntWalk.u64_in, Go.IntWalk.u32_in]); fail_if_success (with_reducible refine eqOk_mk ?_))
    | ((first | with_reducible (first | refine retSB_ret [] ?_ | refine retSB_end [] ?_ | refine retSF_ret [] ?_ | refine retSF_end [] ?_)); simp -implicitDefEqProofs only [noE, noEL, noELL, frozT, frozTL, boxesOf, stALL, okB, okBL, okBLL, rnB, rnBL, rnBLL, posN, nodupN, bxIds, RS.cells, av_mk, zero_av, e1, Int.cast_ofNat_Int, hn, mvcgen_simp, reduceIte, reduceCtorEq, Nat.reduceLT, Nat.reduceGT, Nat.reduceLeDiff, Nat.reduceAdd, Nat.reduceSub, Nat.reduceMul, Nat.reduceBEq, Int.reduceToNat, Int.reduceLT, Int.reduceLE, Int.reduceAdd, Int.reduceSub, Int.reduceMul, Int.reduceNeg, Int.reducePow, Int.reduceEq, Int.reduceNe, Nat.reduceEqDiff]; try simp (disch := omega) only [Int.tdiv_eq_ediv_of_nonneg, Int.tmod_eq_emod_of_nonneg, getD_take', bitop_or_256, Go.IntWalk.i64_in, Go.IntWalk.u8_in, Go.IntWalk.u64_in, Go.IntWalk.u32_in])
    | ((first | with_reducible (first | refine AWP.seqRB [0,1,4,5,6,18,30,32,33,37,41,48,52,56,67,74] fun K hK => ?_ | refine AWP.lastRB [0,1,4,5,6,18,30,32,33,37,41,48,52,56,67,74] fun K hK => ?_ | refine AWP.seqC fun Kt Kf hKt hKf => ?_ | refine AWP.condK fun Kt Kf hKt hKf => ?_ | refine retS_ret ?_ | refine retS_end ?_)); simp -implicitDefEqProofs only [callSt, scalarAV, scalarL, posOf, posL, ansOk, ansOkL, ren3, ren3L, nm, List.nodup_cons, List.not_mem_nil, List.nodup_nil, List.mem_cons, RS.cells, av_mk, zero_av, e1, Int.cast_ofNat_Int, hn, mvcgen_simp, reduceIte, reduceCtorEq, Nat.reduceLT, Nat.reduceGT, Nat.reduceLeDiff, Nat.reduceAdd, Nat.reduceSub, Nat.reduceMul, Nat.reduceBEq, Int.reduceToNat, Int.reduceLT, Int.reduceLE, Int.reduceAdd, Int.reduceSub, Int.reduceMul, Int.reduceNeg, Int.reducePow, Int.reduceEq, Int.reduceNe, Nat.reduceEqDiff]; try simp (disch := omega) only [Int.tdiv_eq_ediv_of_nonneg, Int.tmod_eq_emod_of_nonneg, getD_take', bitop_or_256, Go.IntWalk.i64_in, Go.IntWalk.u8_in, Go.IntWalk.u64_in, Go.IntWalk.u32_in])
    | ((with_reducible refine guardP_split (fun hg => ?_) (fun hg => ?_)) <;> simp -implicitDefEqProofs only [hg, RS.cells, av_mk, zero_av, e1, Int.cast_ofNat_Int, hn, mvcgen_simp, reduceIte, reduceCtorEq, Nat.reduceLT, Nat.reduceGT, Nat.reduceLeDiff, Nat.reduceAdd, Nat.reduceSub, Nat.reduceMul, Nat.reduceBEq, Int.reduceToNat, Int.reduceLT, Int.reduceLE, Int.reduceAdd, Int.reduceSub, Int.reduceMul, Int.reduceNeg, Int.reducePow, Int.reduceEq, Int.reduceNe, Nat.reduceEqDiff] <;> (try simp (disch := omega) only [Int.tdiv_eq_ediv_of_nonneg, Int.tmod_eq_emod_of_nonneg, getD_take', bitop_or_256, Go.IntWalk.i64_in, Go.IntWalk.u8_in, Go.IntWalk.u64_in, Go.IntWalk.u32_in]) <;> try simp only [List.length_take, List.length_drop, List.length_append, List.length_cons, List.length_nil, List.length_map, decide_eq_true_eq, decide_eq_false_iff_not, Bool.not_eq_true', Bool.not_eq_false', Int.not_lt, Int.not_le] at hg)
    | with_reducible refine And.intro (by first | omega | (simp only [List.length_take, List.length_drop, List.length_append, List.length_cons, List.length_nil, List.length_map, List.length_replicate, List.length_set, List.length_range]; omega)) ?_
    | (exfalso; omega)
theorem f39_ok {valid : List UInt8 → Bool} (hv : ValidOk valid) : ∀ (deep : Nat), deep ≤ 8 → ∀ (s : RS) (nb : Bool), (nb = true → s.b = []) → s.b.length ≤ 100000 → s.items ≤ 10000 →
    CallsB Tryd.prog 39 [.ptr 1000000 0, .int .i64 (deep : Int)] [s.cells nb] (itemS valid deep s).1.av [(itemS valid deep s).2.cells nb] := by
  intro deep
  induction deep with
  | zero => ?_
  | succ d ih => ?_
  all_goals
    intro hdeep s nb hnb hl hi
    rw [itemS_eq]
    by_cases hmany : 512 < s.items + 1
    · rw [if_pos hmany]
      exact f39_many valid _ s nb hi hmany
    rw [if_neg hmany]
    have c50 := f50_ok { s with items := s.items + 1 } nb hnb hl
    have hlen := headS_len { s with items := s.items + 1 }
    have hitems := headS_items { s with items := s.items + 1 }
    have hne := headS_ne { s with items := s.items + 1 }
    have hbd := headS_bd { s with items := s.items + 1 }
    have herr := headS_err { s with items := s.items + 1 }
    obtain ⟨h, hh⟩ : ∃ h, headS { s with items := s.items + 1 } = h := ⟨_, rfl⟩
    rw [hh] at c50 hlen hitems hne hbd herr ⊢
    obtain ⟨b, items, err⟩ := s
    obtain ⟨kind, n, ⟨b', items', err'⟩⟩ := h
    simp only at *
    subst hitems
    by_cases he : err' = 0
    · subst he
      rw [if_neg (by simp)]
      have herr0 : err = 0 := by
        by_cases h : err = 0
        · exact h
        · exact absurd (herr h).symm h
      subst herr0
      have hb : b ≠ [] := hne rfl
      have hnbf : nb = false := by
        cases nb with
        | false => rfl
        | true => exact absurd (hnb rfl) hb
      subst hnbf
      have hk8 : kind = 0 ∨ kind = 1 ∨ kind = 2 ∨ kind = 3 ∨ kind = 4 ∨ kind = 5 ∨ kind = 6 ∨ kind = 7 := by omega
      rcases hk8 with rfl | rfl | rfl | rfl | rfl | rfl | rfl | rfl
      · exact f39_k0 b b' items n (by omega) hbd.2 hl (by omega) c50
      · exact f39_k1 b b' items n (by omega) hbd.2 hl (by omega) c50
      · exact f39_k2 hv b b' items n (by omega) hbd.2 hl (by omega) c50
      · exact f39_k3 hv b b' items n (by omega) hbd.2 hl (by omega) c50
      · first
        | exact f39_k40 b b' items n (by omega) hbd.2 hl (by omega) c50
        | exact f39_k4s (by omega) (fun s h1 h2 => ih (by omega) s false (fun h => by cases h) h1 h2) b b' items n (by omega) hbd.2 hl (by omega) c50
      · first
        | exact f39_k50 b b' items n (by omega) hbd.2 hl (by omega) c50
        | exact f39_k5s (by omega) (fun s h1 h2 => ih (by omega) s false (fun h => by cases h) h1 h2) b b' items n (by omega) hbd.2 hl (by omega) c50
      · exact f39_k6 b b' items n (by omega) hbd.2 hl (by omega) c50
      · exact f39_k7 b b' items n (by omega) hbd.2 hl (by omega) c50
    · rw [if_pos he]
      exact f39_err _ b b' items err err' kind n nb (by omega) he c50
end Go.Proofs.YtijcpdgfbboamaaDoor
