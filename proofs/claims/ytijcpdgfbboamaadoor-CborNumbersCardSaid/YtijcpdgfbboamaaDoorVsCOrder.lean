/- How keys stand to one another, and what may be a key. -/
import Derived.Test.YtijcpdgfbboamaaDoorVsCItem
import Derived.Lib.BytesEntry
import Derived.Laws.Externs
open Go Go.VS
namespace Go.Proofs.YtijcpdgfbboamaaDoor
set_option linter.unusedVariables false
set_option linter.unusedSimpArgs false
set_option maxRecDepth 20000
set_option maxHeartbeats 4000000
theorem cmpB_eq : ∀ (a b : List UInt8), Go.Lib.compareBytes a b = cmpB a b
  | [], [] => rfl
  | [], _ :: _ => rfl
  | _ :: _, [] => rfl
  | x :: xs, y :: ys => by simp only [Go.Lib.compareBytes, cmpB, cmpB_eq xs ys]
/-- A slice of bytes that is shared, as the library's entries read it. -/
theorem bytes_read {P : Program} {w : World} {Sh : Nat → Prop} {nb : Bool} {l : List UInt8} {v : Value} (h : RepF w Sh (.sl none nb 1 (l.map u8)) v) : (Extern.Bytes.bytesOf v).run P w = .ok ⟨l.toArray⟩ w := by
  have hbs : VS.bytesOf (l.map u8) = some l := bytesOf_u8 l
  rcases h with ⟨_, h1, rfl⟩ | ⟨_, b, off, cap, vs, sp, rfl, h1, h2, h3⟩
  · have : l = [] := by simpa using h1
    subst this
    rfl
  · obtain ⟨ns, rfl, rfl⟩ := bytes_row h3 hbs
    have hlen : (((ns.map fun n => UInt8.ofNat n.toNat)).map u8).length = ns.length := by simp
    rw [hlen]
    have hr := Go.Lib.run_loadBytesX (P := P) w ns ⟨b, off, sp⟩ .empty (fun j x hj => by
      rcases h2 with h2 | ⟨rfl, _, h5⟩
      · have : ns.length = 0 := by simp only [List.length_map] at h1; omega
        have : ns = [] := List.length_eq_zero_iff.1 this
        subst this; simp at hj
      · rw [Addr.add_plain]
        exact h5 j _ (by rw [List.getElem?_map, hj]; rfl))
    show (Extern.Bytes.loadBytes _ _ _).run P w = _
    rw [hr]
    congr 1
    apply ByteArray.ext
    simp [Go.Lib.bytesOf]
theorem f66_ok (n1 n2 : Bool) (a b : List UInt8) : ExtP Tryd.prog 66 [.sl none n1 1 (a.map u8), .sl none n2 1 (b.map u8)] (.int .i64 (cmpB a b)) := by
  intro w Sh vals h
  obtain ⟨hl, hr⟩ := h
  match vals, hl with
  | [u, v], _ =>
    have h1 := bytes_read (P := Tryd.prog) (hr 0 _ u rfl rfl)
    have h2 := bytes_read (P := Tryd.prog) (hr 1 _ v rfl rfl)
    refine ⟨.int .i64 (cmpB a b), ?_, fun _ _ => rfl⟩
    rw [run_callFunc_extern Tryd.func66 (by kernel_rfl) (by kernel_rfl) (by kernel_rfl) (e := Extern.BytealgCompare.compare) (by kernel_rfl)]
    have : (Extern.BytealgCompare.compare #[u, v]).run Tryd.prog w = .ok (.int .i64 (cmpB a b)) w := by
      change Sem.run Tryd.prog (do pure (goInt (Extern.BytealgCompare.cmp (← Extern.Bytes.bytesOf u) (← Extern.Bytes.bytesOf v)))) w = _
      simp only [Sem.run_bind, h1, h2, Sem.run_pure, Result.andThen]
      rw [Go.Lib.cmp_eq, cmpB_eq]
      rfl
    rw [show #[u, v] = #[u, v] from rfl, this]
    rfl
theorem f62_ok (n1 n2 : Bool) (a b : List UInt8) : CallsP Tryd.prog 62 [.sl none n1 1 (a.map u8), .sl none n2 1 (b.map u8)] (.int .i64 (cmpB a b)) := by
  refine CallsP.intro Tryd.func62 rfl (by show 2 ≤ 8; decide) ?_
  rintro X hX
  have hn : X.n = 8 := hX
  unfold Tryd.f62
  dsimp only
  rw [entry2]
  repeat' first
    | with_reducible (first | refine AWP.seqA ?_ | refine AWP.seqB ?_ | refine AWP.block ?_ | refine AWP.skipN ?_ | refine AWP.skip ?_ | refine AWP.exit ?_ | refine AWP.ret ?_ | refine LoopN.succ ?_ | refine thenS_n ?_ | refine thenS_x ?_ | refine thenS_r ?_ | refine blockS_n ?_ | refine blockS_r ?_ | refine blockS_x ?_ | refine blockS_y (by decide) ?_)
    | ((with_reducible refine hK _ ?_); clear hK K) | ((with_reducible refine hKt ?_); clear hKt hKf Kt Kf) | ((with_reducible refine hKf ?_); clear hKt hKf Kt Kf) | ((with_reducible refine condP_split (fun hg => hKt ?_) (fun hg => hKf ?_)) <;> clear hKt hKf Kt Kf <;> (try simp only [List.length_take, List.length_drop, List.length_append, List.length_cons, List.length_nil, List.length_map, decide_eq_true_eq, decide_eq_false_iff_not, Bool.not_eq_true', Bool.not_eq_false', Int.not_lt, Int.not_le] at hg) <;> try (exfalso; omega))
    | ((first | with_reducible (first | refine retSB_ret [] ?_ | refine retSB_end [] ?_ | refine retSF_ret [] ?_ | refine retSF_end [] ?_)); simp -implicitDefEqProofs only [noE, noEL, noELL, frozT, frozTL, boxesOf, stALL, okB, okBL, okBLL, rnB, rnBL, rnBLL, posN, nodupN, bxIds, Int.cast_ofNat_Int, hn, mvcgen_simp, reduceIte, reduceCtorEq, Nat.reduceLT, Nat.reduceGT, Nat.reduceLeDiff, Nat.reduceAdd, Nat.reduceSub, Nat.reduceMul, Nat.reduceBEq, Int.reduceToNat, Int.reduceLT, Int.reduceLE, Int.reduceAdd, Int.reduceSub, Int.reduceMul, Int.reduceNeg, Int.reducePow, Int.reduceEq, Int.reduceNe, Nat.reduceEqDiff]; try simp (disch := omega) only [Int.tdiv_eq_ediv_of_nonneg, Int.tmod_eq_emod_of_nonneg, getD_take', bitop_or_256, Go.IntWalk.i64_in, Go.IntWalk.u8_in, Go.IntWalk.u64_in, Go.IntWalk.u32_in])
    | ((first | with_reducible (first | refine AWP.seqRB [0,1,4] fun K hK => ?_ | refine AWP.lastRB [0,1,4] fun K hK => ?_ | refine AWP.seqC fun Kt Kf hKt hKf => ?_ | refine AWP.condK fun Kt Kf hKt hKf => ?_ | refine retS_ret ?_ | refine retS_end ?_) | refine callE_P (f66_ok n1 n2 a b) ?_ | refine callP_intro2 (f66_ok n1 n2 a b) ?_ | refine callE_X (f66_ok n1 n2 a b) ?_); simp -implicitDefEqProofs only [callSt, scalarAV, scalarL, posOf, posL, ansOk, ansOkL, ren3, ren3L, nm, List.nodup_cons, List.not_mem_nil, List.nodup_nil, List.mem_cons, Int.cast_ofNat_Int, hn, mvcgen_simp, reduceIte, reduceCtorEq, Nat.reduceLT, Nat.reduceGT, Nat.reduceLeDiff, Nat.reduceAdd, Nat.reduceSub, Nat.reduceMul, Nat.reduceBEq, Int.reduceToNat, Int.reduceLT, Int.reduceLE, Int.reduceAdd, Int.reduceSub, Int.reduceMul, Int.reduceNeg, Int.reducePow, Int.reduceEq, Int.reduceNe, Nat.reduceEqDiff]; try simp (disch := omega) only [Int.tdiv_eq_ediv_of_nonneg, Int.tmod_eq_emod_of_nonneg, getD_take', bitop_or_256, Go.IntWalk.i64_in, Go.IntWalk.u8_in, Go.IntWalk.u64_in, Go.IntWalk.u32_in])
    | ((with_reducible refine guardP_split (fun hg => ?_) (fun hg => ?_)) <;> simp -implicitDefEqProofs only [hg, Int.cast_ofNat_Int, hn, mvcgen_simp, reduceIte, reduceCtorEq, Nat.reduceLT, Nat.reduceGT, Nat.reduceLeDiff, Nat.reduceAdd, Nat.reduceSub, Nat.reduceMul, Nat.reduceBEq, Int.reduceToNat, Int.reduceLT, Int.reduceLE, Int.reduceAdd, Int.reduceSub, Int.reduceMul, Int.reduceNeg, Int.reducePow, Int.reduceEq, Int.reduceNe, Nat.reduceEqDiff] <;> (try simp (disch := omega) only [Int.tdiv_eq_ediv_of_nonneg, Int.tmod_eq_emod_of_nonneg, getD_take', bitop_or_256, Go.IntWalk.i64_in, Go.IntWalk.u8_in, Go.IntWalk.u64_in, Go.IntWalk.u32_in]) <;> try simp only [List.length_take, List.length_drop, List.length_append, List.length_cons, List.length_nil, List.length_map, decide_eq_true_eq, decide_eq_false_iff_not, Bool.not_eq_true', Bool.not_eq_false', Int.not_lt, Int.not_le] at hg)
    | with_reducible refine And.intro (by first | omega | (simp only [List.length_take, List.length_drop, List.length_append, List.length_cons, List.length_nil, List.length_map, List.length_replicate, List.length_set, List.length_range]; omega)) ?_
    | (exfalso; omega)
theorem f63_ok (x : Int) : CallsP Tryd.prog 63 [.int .u8 x] (.bool false) := by
  refine CallsP.intro Tryd.func63 rfl (by show 1 ≤ 6; decide) ?_
  rintro X hX
  have hn : X.n = 6 := hX
  unfold Tryd.f63
  dsimp only
  rw [entry1]
  repeat' first
    | with_reducible (first | refine AWP.seqA ?_ | refine AWP.seqB ?_ | refine AWP.block ?_ | refine AWP.skipN ?_ | refine AWP.skip ?_ | refine AWP.exit ?_ | refine AWP.ret ?_ | refine LoopN.succ ?_ | refine thenS_n ?_ | refine thenS_x ?_ | refine thenS_r ?_ | refine blockS_n ?_ | refine blockS_r ?_ | refine blockS_x ?_ | refine blockS_y (by decide) ?_)
    | ((with_reducible refine hK _ ?_); clear hK K) | ((with_reducible refine hKt ?_); clear hKt hKf Kt Kf) | ((with_reducible refine hKf ?_); clear hKt hKf Kt Kf) | ((with_reducible refine condP_split (fun hg => hKt ?_) (fun hg => hKf ?_)) <;> clear hKt hKf Kt Kf <;> (try simp only [List.length_take, List.length_drop, List.length_append, List.length_cons, List.length_nil, List.length_map, decide_eq_true_eq, decide_eq_false_iff_not, Bool.not_eq_true', Bool.not_eq_false', Int.not_lt, Int.not_le] at hg) <;> try (exfalso; omega))
    | ((first | with_reducible (first | refine retSB_ret [] ?_ | refine retSB_end [] ?_ | refine retSF_ret [] ?_ | refine retSF_end [] ?_)); simp -implicitDefEqProofs only [noE, noEL, noELL, frozT, frozTL, boxesOf, stALL, okB, okBL, okBLL, rnB, rnBL, rnBLL, posN, nodupN, bxIds, Int.cast_ofNat_Int, hn, mvcgen_simp, reduceIte, reduceCtorEq, Nat.reduceLT, Nat.reduceGT, Nat.reduceLeDiff, Nat.reduceAdd, Nat.reduceSub, Nat.reduceMul, Nat.reduceBEq, Int.reduceToNat, Int.reduceLT, Int.reduceLE, Int.reduceAdd, Int.reduceSub, Int.reduceMul, Int.reduceNeg, Int.reducePow, Int.reduceEq, Int.reduceNe, Nat.reduceEqDiff]; try simp (disch := omega) only [Int.tdiv_eq_ediv_of_nonneg, Int.tmod_eq_emod_of_nonneg, getD_take', bitop_or_256, Go.IntWalk.i64_in, Go.IntWalk.u8_in, Go.IntWalk.u64_in, Go.IntWalk.u32_in])
    | ((first | with_reducible (first | refine AWP.seqRB [0,2] fun K hK => ?_ | refine AWP.lastRB [0,2] fun K hK => ?_ | refine AWP.seqC fun Kt Kf hKt hKf => ?_ | refine AWP.condK fun Kt Kf hKt hKf => ?_ | refine retS_ret ?_ | refine retS_end ?_)); simp -implicitDefEqProofs only [Int.cast_ofNat_Int, hn, mvcgen_simp, reduceIte, reduceCtorEq, Nat.reduceLT, Nat.reduceGT, Nat.reduceLeDiff, Nat.reduceAdd, Nat.reduceSub, Nat.reduceMul, Nat.reduceBEq, Int.reduceToNat, Int.reduceLT, Int.reduceLE, Int.reduceAdd, Int.reduceSub, Int.reduceMul, Int.reduceNeg, Int.reducePow, Int.reduceEq, Int.reduceNe, Nat.reduceEqDiff]; try simp (disch := omega) only [Int.tdiv_eq_ediv_of_nonneg, Int.tmod_eq_emod_of_nonneg, getD_take', bitop_or_256, Go.IntWalk.i64_in, Go.IntWalk.u8_in, Go.IntWalk.u64_in, Go.IntWalk.u32_in])
    | ((with_reducible refine guardP_split (fun hg => ?_) (fun hg => ?_)) <;> simp -implicitDefEqProofs only [hg, Int.cast_ofNat_Int, hn, mvcgen_simp, reduceIte, reduceCtorEq, Nat.reduceLT, Nat.reduceGT, Nat.reduceLeDiff, Nat.reduceAdd, Nat.reduceSub, Nat.reduceMul, Nat.reduceBEq, Int.reduceToNat, Int.reduceLT, Int.reduceLE, Int.reduceAdd, Int.reduceSub, Int.reduceMul, Int.reduceNeg, Int.reducePow, Int.reduceEq, Int.reduceNe, Nat.reduceEqDiff] <;> (try simp (disch := omega) only [Int.tdiv_eq_ediv_of_nonneg, Int.tmod_eq_emod_of_nonneg, getD_take', bitop_or_256, Go.IntWalk.i64_in, Go.IntWalk.u8_in, Go.IntWalk.u64_in, Go.IntWalk.u32_in]) <;> try simp only [List.length_take, List.length_drop, List.length_append, List.length_cons, List.length_nil, List.length_map, decide_eq_true_eq, decide_eq_false_iff_not, Bool.not_eq_true', Bool.not_eq_false', Int.not_lt, Int.not_le] at hg)
    | with_reducible refine And.intro (by first | omega | (simp only [List.length_take, List.length_drop, List.length_append, List.length_cons, List.length_nil, List.length_map, List.length_replicate, List.length_set, List.length_range]; omega)) ?_
    | (exfalso; omega)
theorem f64_ok (x : Int) : CallsP Tryd.prog 64 [.int .u64 x] (.bool false) := by
  refine CallsP.intro Tryd.func64 rfl (by show 1 ≤ 6; decide) ?_
  rintro X hX
  have hn : X.n = 6 := hX
  unfold Tryd.f64
  dsimp only
  rw [entry1]
  repeat' first
    | with_reducible (first | refine AWP.seqA ?_ | refine AWP.seqB ?_ | refine AWP.block ?_ | refine AWP.skipN ?_ | refine AWP.skip ?_ | refine AWP.exit ?_ | refine AWP.ret ?_ | refine LoopN.succ ?_ | refine thenS_n ?_ | refine thenS_x ?_ | refine thenS_r ?_ | refine blockS_n ?_ | refine blockS_r ?_ | refine blockS_x ?_ | refine blockS_y (by decide) ?_)
    | ((with_reducible refine hK _ ?_); clear hK K) | ((with_reducible refine hKt ?_); clear hKt hKf Kt Kf) | ((with_reducible refine hKf ?_); clear hKt hKf Kt Kf) | ((with_reducible refine condP_split (fun hg => hKt ?_) (fun hg => hKf ?_)) <;> clear hKt hKf Kt Kf <;> (try simp only [List.length_take, List.length_drop, List.length_append, List.length_cons, List.length_nil, List.length_map, decide_eq_true_eq, decide_eq_false_iff_not, Bool.not_eq_true', Bool.not_eq_false', Int.not_lt, Int.not_le] at hg) <;> try (exfalso; omega))
    | ((first | with_reducible (first | refine retSB_ret [] ?_ | refine retSB_end [] ?_ | refine retSF_ret [] ?_ | refine retSF_end [] ?_)); simp -implicitDefEqProofs only [noE, noEL, noELL, frozT, frozTL, boxesOf, stALL, okB, okBL, okBLL, rnB, rnBL, rnBLL, posN, nodupN, bxIds, Int.cast_ofNat_Int, hn, mvcgen_simp, reduceIte, reduceCtorEq, Nat.reduceLT, Nat.reduceGT, Nat.reduceLeDiff, Nat.reduceAdd, Nat.reduceSub, Nat.reduceMul, Nat.reduceBEq, Int.reduceToNat, Int.reduceLT, Int.reduceLE, Int.reduceAdd, Int.reduceSub, Int.reduceMul, Int.reduceNeg, Int.reducePow, Int.reduceEq, Int.reduceNe, Nat.reduceEqDiff]; try simp (disch := omega) only [Int.tdiv_eq_ediv_of_nonneg, Int.tmod_eq_emod_of_nonneg, getD_take', bitop_or_256, Go.IntWalk.i64_in, Go.IntWalk.u8_in, Go.IntWalk.u64_in, Go.IntWalk.u32_in])
    | ((first | with_reducible (first | refine AWP.seqRB [0,2] fun K hK => ?_ | refine AWP.lastRB [0,2] fun K hK => ?_ | refine AWP.seqC fun Kt Kf hKt hKf => ?_ | refine AWP.condK fun Kt Kf hKt hKf => ?_ | refine retS_ret ?_ | refine retS_end ?_)); simp -implicitDefEqProofs only [Int.cast_ofNat_Int, hn, mvcgen_simp, reduceIte, reduceCtorEq, Nat.reduceLT, Nat.reduceGT, Nat.reduceLeDiff, Nat.reduceAdd, Nat.reduceSub, Nat.reduceMul, Nat.reduceBEq, Int.reduceToNat, Int.reduceLT, Int.reduceLE, Int.reduceAdd, Int.reduceSub, Int.reduceMul, Int.reduceNeg, Int.reducePow, Int.reduceEq, Int.reduceNe, Nat.reduceEqDiff]; try simp (disch := omega) only [Int.tdiv_eq_ediv_of_nonneg, Int.tmod_eq_emod_of_nonneg, getD_take', bitop_or_256, Go.IntWalk.i64_in, Go.IntWalk.u8_in, Go.IntWalk.u64_in, Go.IntWalk.u32_in])
    | ((with_reducible refine guardP_split (fun hg => ?_) (fun hg => ?_)) <;> simp -implicitDefEqProofs only [hg, Int.cast_ofNat_Int, hn, mvcgen_simp, reduceIte, reduceCtorEq, Nat.reduceLT, Nat.reduceGT, Nat.reduceLeDiff, Nat.reduceAdd, Nat.reduceSub, Nat.reduceMul, Nat.reduceBEq, Int.reduceToNat, Int.reduceLT, Int.reduceLE, Int.reduceAdd, Int.reduceSub, Int.reduceMul, Int.reduceNeg, Int.reducePow, Int.reduceEq, Int.reduceNe, Nat.reduceEqDiff] <;> (try simp (disch := omega) only [Int.tdiv_eq_ediv_of_nonneg, Int.tmod_eq_emod_of_nonneg, getD_take', bitop_or_256, Go.IntWalk.i64_in, Go.IntWalk.u8_in, Go.IntWalk.u64_in, Go.IntWalk.u32_in]) <;> try simp only [List.length_take, List.length_drop, List.length_append, List.length_cons, List.length_nil, List.length_map, decide_eq_true_eq, decide_eq_false_iff_not, Bool.not_eq_true', Bool.not_eq_false', Int.not_lt, Int.not_le] at hg)
    | with_reducible refine And.intro (by first | omega | (simp only [List.length_take, List.length_drop, List.length_append, List.length_cons, List.length_nil, List.length_map, List.length_replicate, List.length_set, List.length_range]; omega)) ?_
    | (exfalso; omega)
theorem f65_ok (x : Int) : CallsP Tryd.prog 65 [.int .i64 x] (.bool false) := by
  refine CallsP.intro Tryd.func65 rfl (by show 1 ≤ 6; decide) ?_
  rintro X hX
  have hn : X.n = 6 := hX
  unfold Tryd.f65
  dsimp only
  rw [entry1]
  repeat' first
    | with_reducible (first | refine AWP.seqA ?_ | refine AWP.seqB ?_ | refine AWP.block ?_ | refine AWP.skipN ?_ | refine AWP.skip ?_ | refine AWP.exit ?_ | refine AWP.ret ?_ | refine LoopN.succ ?_ | refine thenS_n ?_ | refine thenS_x ?_ | refine thenS_r ?_ | refine blockS_n ?_ | refine blockS_r ?_ | refine blockS_x ?_ | refine blockS_y (by decide) ?_)
    | ((with_reducible refine hK _ ?_); clear hK K) | ((with_reducible refine hKt ?_); clear hKt hKf Kt Kf) | ((with_reducible refine hKf ?_); clear hKt hKf Kt Kf) | ((with_reducible refine condP_split (fun hg => hKt ?_) (fun hg => hKf ?_)) <;> clear hKt hKf Kt Kf <;> (try simp only [List.length_take, List.length_drop, List.length_append, List.length_cons, List.length_nil, List.length_map, decide_eq_true_eq, decide_eq_false_iff_not, Bool.not_eq_true', Bool.not_eq_false', Int.not_lt, Int.not_le] at hg) <;> try (exfalso; omega))
    | ((first | with_reducible (first | refine retSB_ret [] ?_ | refine retSB_end [] ?_ | refine retSF_ret [] ?_ | refine retSF_end [] ?_)); simp -implicitDefEqProofs only [noE, noEL, noELL, frozT, frozTL, boxesOf, stALL, okB, okBL, okBLL, rnB, rnBL, rnBLL, posN, nodupN, bxIds, Int.cast_ofNat_Int, hn, mvcgen_simp, reduceIte, reduceCtorEq, Nat.reduceLT, Nat.reduceGT, Nat.reduceLeDiff, Nat.reduceAdd, Nat.reduceSub, Nat.reduceMul, Nat.reduceBEq, Int.reduceToNat, Int.reduceLT, Int.reduceLE, Int.reduceAdd, Int.reduceSub, Int.reduceMul, Int.reduceNeg, Int.reducePow, Int.reduceEq, Int.reduceNe, Nat.reduceEqDiff]; try simp (disch := omega) only [Int.tdiv_eq_ediv_of_nonneg, Int.tmod_eq_emod_of_nonneg, getD_take', bitop_or_256, Go.IntWalk.i64_in, Go.IntWalk.u8_in, Go.IntWalk.u64_in, Go.IntWalk.u32_in])
    | ((first | with_reducible (first | refine AWP.seqRB [0,2] fun K hK => ?_ | refine AWP.lastRB [0,2] fun K hK => ?_ | refine AWP.seqC fun Kt Kf hKt hKf => ?_ | refine AWP.condK fun Kt Kf hKt hKf => ?_ | refine retS_ret ?_ | refine retS_end ?_)); simp -implicitDefEqProofs only [Int.cast_ofNat_Int, hn, mvcgen_simp, reduceIte, reduceCtorEq, Nat.reduceLT, Nat.reduceGT, Nat.reduceLeDiff, Nat.reduceAdd, Nat.reduceSub, Nat.reduceMul, Nat.reduceBEq, Int.reduceToNat, Int.reduceLT, Int.reduceLE, Int.reduceAdd, Int.reduceSub, Int.reduceMul, Int.reduceNeg, Int.reducePow, Int.reduceEq, Int.reduceNe, Nat.reduceEqDiff]; try simp (disch := omega) only [Int.tdiv_eq_ediv_of_nonneg, Int.tmod_eq_emod_of_nonneg, getD_take', bitop_or_256, Go.IntWalk.i64_in, Go.IntWalk.u8_in, Go.IntWalk.u64_in, Go.IntWalk.u32_in])
    | ((with_reducible refine guardP_split (fun hg => ?_) (fun hg => ?_)) <;> simp -implicitDefEqProofs only [hg, Int.cast_ofNat_Int, hn, mvcgen_simp, reduceIte, reduceCtorEq, Nat.reduceLT, Nat.reduceGT, Nat.reduceLeDiff, Nat.reduceAdd, Nat.reduceSub, Nat.reduceMul, Nat.reduceBEq, Int.reduceToNat, Int.reduceLT, Int.reduceLE, Int.reduceAdd, Int.reduceSub, Int.reduceMul, Int.reduceNeg, Int.reducePow, Int.reduceEq, Int.reduceNe, Nat.reduceEqDiff] <;> (try simp (disch := omega) only [Int.tdiv_eq_ediv_of_nonneg, Int.tmod_eq_emod_of_nonneg, getD_take', bitop_or_256, Go.IntWalk.i64_in, Go.IntWalk.u8_in, Go.IntWalk.u64_in, Go.IntWalk.u32_in]) <;> try simp only [List.length_take, List.length_drop, List.length_append, List.length_cons, List.length_nil, List.length_map, decide_eq_true_eq, decide_eq_false_iff_not, Bool.not_eq_true', Bool.not_eq_false', Int.not_lt, Int.not_le] at hg)
    | with_reducible refine And.intro (by first | omega | (simp only [List.length_take, List.length_drop, List.length_append, List.length_cons, List.length_nil, List.length_map, List.length_replicate, List.length_set, List.length_range]; omega)) ?_
    | (exfalso; omega)
theorem f59_ok (x y : Nat) : CallsP Tryd.prog 59 [.int .u8 (x : Int), .int .u8 (y : Int)] (.int .i64 (cmpN x y)) := by
  have e : cmpN x y = if x < y then -1 else if y < x then 1 else 0 := rfl
  refine CallsP.intro Tryd.func59 rfl (by show 2 ≤ 20; decide) ?_
  rintro X hX
  have hn : X.n = 20 := hX
  unfold Tryd.f59
  dsimp only
  rw [entry2]
  repeat' first
    | with_reducible (first | refine AWP.seqA ?_ | refine AWP.seqB ?_ | refine AWP.block ?_ | refine AWP.skipN ?_ | refine AWP.skip ?_ | refine AWP.exit ?_ | refine AWP.ret ?_ | refine LoopN.succ ?_ | refine thenS_n ?_ | refine thenS_x ?_ | refine thenS_r ?_ | refine blockS_n ?_ | refine blockS_r ?_ | refine blockS_x ?_ | refine blockS_y (by decide) ?_)
    | ((with_reducible refine hK _ ?_); clear hK K) | ((with_reducible refine hKt ?_); clear hKt hKf Kt Kf) | ((with_reducible refine hKf ?_); clear hKt hKf Kt Kf) | ((with_reducible refine condP_split (fun hg => hKt ?_) (fun hg => hKf ?_)) <;> clear hKt hKf Kt Kf <;> (try simp only [List.length_take, List.length_drop, List.length_append, List.length_cons, List.length_nil, List.length_map, decide_eq_true_eq, decide_eq_false_iff_not, Bool.not_eq_true', Bool.not_eq_false', Int.not_lt, Int.not_le] at hg) <;> try (exfalso; omega))
    | ((first | with_reducible (first | refine retSB_ret [] ?_ | refine retSB_end [] ?_ | refine retSF_ret [] ?_ | refine retSF_end [] ?_)); simp -implicitDefEqProofs only [noE, noEL, noELL, frozT, frozTL, boxesOf, stALL, okB, okBL, okBLL, rnB, rnBL, rnBLL, posN, nodupN, bxIds, Int.cast_ofNat_Int, hn, mvcgen_simp, reduceIte, reduceCtorEq, Nat.reduceLT, Nat.reduceGT, Nat.reduceLeDiff, Nat.reduceAdd, Nat.reduceSub, Nat.reduceMul, Nat.reduceBEq, Int.reduceToNat, Int.reduceLT, Int.reduceLE, Int.reduceAdd, Int.reduceSub, Int.reduceMul, Int.reduceNeg, Int.reducePow, Int.reduceEq, Int.reduceNe, Nat.reduceEqDiff]; try simp (disch := omega) only [Int.tdiv_eq_ediv_of_nonneg, Int.tmod_eq_emod_of_nonneg, getD_take', bitop_or_256, Go.IntWalk.i64_in, Go.IntWalk.u8_in, Go.IntWalk.u64_in, Go.IntWalk.u32_in])
    | ((first | with_reducible (first | refine AWP.seqRB [0,1,4,5,6,11,12,13,16,19] fun K hK => ?_ | refine AWP.lastRB [0,1,4,5,6,11,12,13,16,19] fun K hK => ?_ | refine AWP.seqC fun Kt Kf hKt hKf => ?_ | refine AWP.condK fun Kt Kf hKt hKf => ?_ | refine retS_ret ?_ | refine retS_end ?_) | refine callE_P (f63_ok x) ?_ | refine callP_intro2 (f63_ok x) ?_ | refine callE_X (f63_ok x) ?_ | refine callE_P (f63_ok y) ?_ | refine callP_intro2 (f63_ok y) ?_ | refine callE_X (f63_ok y) ?_); simp -implicitDefEqProofs only [callSt, scalarAV, scalarL, posOf, posL, ansOk, ansOkL, ren3, ren3L, nm, List.nodup_cons, List.not_mem_nil, List.nodup_nil, List.mem_cons, Int.cast_ofNat_Int, hn, mvcgen_simp, reduceIte, reduceCtorEq, Nat.reduceLT, Nat.reduceGT, Nat.reduceLeDiff, Nat.reduceAdd, Nat.reduceSub, Nat.reduceMul, Nat.reduceBEq, Int.reduceToNat, Int.reduceLT, Int.reduceLE, Int.reduceAdd, Int.reduceSub, Int.reduceMul, Int.reduceNeg, Int.reducePow, Int.reduceEq, Int.reduceNe, Nat.reduceEqDiff]; try simp (disch := omega) only [Int.tdiv_eq_ediv_of_nonneg, Int.tmod_eq_emod_of_nonneg, getD_take', bitop_or_256, Go.IntWalk.i64_in, Go.IntWalk.u8_in, Go.IntWalk.u64_in, Go.IntWalk.u32_in])
    | ((with_reducible refine guardP_split (fun hg => ?_) (fun hg => ?_)) <;> simp -implicitDefEqProofs only [hg, Int.cast_ofNat_Int, hn, mvcgen_simp, reduceIte, reduceCtorEq, Nat.reduceLT, Nat.reduceGT, Nat.reduceLeDiff, Nat.reduceAdd, Nat.reduceSub, Nat.reduceMul, Nat.reduceBEq, Int.reduceToNat, Int.reduceLT, Int.reduceLE, Int.reduceAdd, Int.reduceSub, Int.reduceMul, Int.reduceNeg, Int.reducePow, Int.reduceEq, Int.reduceNe, Nat.reduceEqDiff] <;> (try simp (disch := omega) only [Int.tdiv_eq_ediv_of_nonneg, Int.tmod_eq_emod_of_nonneg, getD_take', bitop_or_256, Go.IntWalk.i64_in, Go.IntWalk.u8_in, Go.IntWalk.u64_in, Go.IntWalk.u32_in]) <;> try simp only [List.length_take, List.length_drop, List.length_append, List.length_cons, List.length_nil, List.length_map, decide_eq_true_eq, decide_eq_false_iff_not, Bool.not_eq_true', Bool.not_eq_false', Int.not_lt, Int.not_le] at hg)
    | with_reducible refine And.intro (by first | omega | (simp only [List.length_take, List.length_drop, List.length_append, List.length_cons, List.length_nil, List.length_map, List.length_replicate, List.length_set, List.length_range]; omega)) ?_
    | (exfalso; omega)
  all_goals rw [e]
  all_goals repeat (first | rw [if_pos (by omega)] | rw [if_neg (by omega)])
theorem f60_ok (x y : Nat) : CallsP Tryd.prog 60 [.int .u64 (x : Int), .int .u64 (y : Int)] (.int .i64 (cmpN x y)) := by
  have e : cmpN x y = if x < y then -1 else if y < x then 1 else 0 := rfl
  refine CallsP.intro Tryd.func60 rfl (by show 2 ≤ 20; decide) ?_
  rintro X hX
  have hn : X.n = 20 := hX
  unfold Tryd.f60
  dsimp only
  rw [entry2]
  repeat' first
    | with_reducible (first | refine AWP.seqA ?_ | refine AWP.seqB ?_ | refine AWP.block ?_ | refine AWP.skipN ?_ | refine AWP.skip ?_ | refine AWP.exit ?_ | refine AWP.ret ?_ | refine LoopN.succ ?_ | refine thenS_n ?_ | refine thenS_x ?_ | refine thenS_r ?_ | refine blockS_n ?_ | refine blockS_r ?_ | refine blockS_x ?_ | refine blockS_y (by decide) ?_)
    | ((with_reducible refine hK _ ?_); clear hK K) | ((with_reducible refine hKt ?_); clear hKt hKf Kt Kf) | ((with_reducible refine hKf ?_); clear hKt hKf Kt Kf) | ((with_reducible refine condP_split (fun hg => hKt ?_) (fun hg => hKf ?_)) <;> clear hKt hKf Kt Kf <;> (try simp only [List.length_take, List.length_drop, List.length_append, List.length_cons, List.length_nil, List.length_map, decide_eq_true_eq, decide_eq_false_iff_not, Bool.not_eq_true', Bool.not_eq_false', Int.not_lt, Int.not_le] at hg) <;> try (exfalso; omega))
    | ((first | with_reducible (first | refine retSB_ret [] ?_ | refine retSB_end [] ?_ | refine retSF_ret [] ?_ | refine retSF_end [] ?_)); simp -implicitDefEqProofs only [noE, noEL, noELL, frozT, frozTL, boxesOf, stALL, okB, okBL, okBLL, rnB, rnBL, rnBLL, posN, nodupN, bxIds, Int.cast_ofNat_Int, hn, mvcgen_simp, reduceIte, reduceCtorEq, Nat.reduceLT, Nat.reduceGT, Nat.reduceLeDiff, Nat.reduceAdd, Nat.reduceSub, Nat.reduceMul, Nat.reduceBEq, Int.reduceToNat, Int.reduceLT, Int.reduceLE, Int.reduceAdd, Int.reduceSub, Int.reduceMul, Int.reduceNeg, Int.reducePow, Int.reduceEq, Int.reduceNe, Nat.reduceEqDiff]; try simp (disch := omega) only [Int.tdiv_eq_ediv_of_nonneg, Int.tmod_eq_emod_of_nonneg, getD_take', bitop_or_256, Go.IntWalk.i64_in, Go.IntWalk.u8_in, Go.IntWalk.u64_in, Go.IntWalk.u32_in])
    | ((first | with_reducible (first | refine AWP.seqRB [0,1,4,5,6,11,12,13,16,19] fun K hK => ?_ | refine AWP.lastRB [0,1,4,5,6,11,12,13,16,19] fun K hK => ?_ | refine AWP.seqC fun Kt Kf hKt hKf => ?_ | refine AWP.condK fun Kt Kf hKt hKf => ?_ | refine retS_ret ?_ | refine retS_end ?_) | refine callE_P (f64_ok x) ?_ | refine callP_intro2 (f64_ok x) ?_ | refine callE_X (f64_ok x) ?_ | refine callE_P (f64_ok y) ?_ | refine callP_intro2 (f64_ok y) ?_ | refine callE_X (f64_ok y) ?_); simp -implicitDefEqProofs only [callSt, scalarAV, scalarL, posOf, posL, ansOk, ansOkL, ren3, ren3L, nm, List.nodup_cons, List.not_mem_nil, List.nodup_nil, List.mem_cons, Int.cast_ofNat_Int, hn, mvcgen_simp, reduceIte, reduceCtorEq, Nat.reduceLT, Nat.reduceGT, Nat.reduceLeDiff, Nat.reduceAdd, Nat.reduceSub, Nat.reduceMul, Nat.reduceBEq, Int.reduceToNat, Int.reduceLT, Int.reduceLE, Int.reduceAdd, Int.reduceSub, Int.reduceMul, Int.reduceNeg, Int.reducePow, Int.reduceEq, Int.reduceNe, Nat.reduceEqDiff]; try simp (disch := omega) only [Int.tdiv_eq_ediv_of_nonneg, Int.tmod_eq_emod_of_nonneg, getD_take', bitop_or_256, Go.IntWalk.i64_in, Go.IntWalk.u8_in, Go.IntWalk.u64_in, Go.IntWalk.u32_in])
    | ((with_reducible refine guardP_split (fun hg => ?_) (fun hg => ?_)) <;> simp -implicitDefEqProofs only [hg, Int.cast_ofNat_Int, hn, mvcgen_simp, reduceIte, reduceCtorEq, Nat.reduceLT, Nat.reduceGT, Nat.reduceLeDiff, Nat.reduceAdd, Nat.reduceSub, Nat.reduceMul, Nat.reduceBEq, Int.reduceToNat, Int.reduceLT, Int.reduceLE, Int.reduceAdd, Int.reduceSub, Int.reduceMul, Int.reduceNeg, Int.reducePow, Int.reduceEq, Int.reduceNe, Nat.reduceEqDiff] <;> (try simp (disch := omega) only [Int.tdiv_eq_ediv_of_nonneg, Int.tmod_eq_emod_of_nonneg, getD_take', bitop_or_256, Go.IntWalk.i64_in, Go.IntWalk.u8_in, Go.IntWalk.u64_in, Go.IntWalk.u32_in]) <;> try simp only [List.length_take, List.length_drop, List.length_append, List.length_cons, List.length_nil, List.length_map, decide_eq_true_eq, decide_eq_false_iff_not, Bool.not_eq_true', Bool.not_eq_false', Int.not_lt, Int.not_le] at hg)
    | with_reducible refine And.intro (by first | omega | (simp only [List.length_take, List.length_drop, List.length_append, List.length_cons, List.length_nil, List.length_map, List.length_replicate, List.length_set, List.length_range]; omega)) ?_
    | (exfalso; omega)
  all_goals rw [e]
  all_goals repeat (first | rw [if_pos (by omega)] | rw [if_neg (by omega)])
theorem f61_ok (x y : Nat) : CallsP Tryd.prog 61 [.int .i64 (x : Int), .int .i64 (y : Int)] (.int .i64 (cmpN x y)) := by
  have e : cmpN x y = if x < y then -1 else if y < x then 1 else 0 := rfl
  refine CallsP.intro Tryd.func61 rfl (by show 2 ≤ 20; decide) ?_
  rintro X hX
  have hn : X.n = 20 := hX
  unfold Tryd.f61
  dsimp only
  rw [entry2]
  repeat' first
    | with_reducible (first | refine AWP.seqA ?_ | refine AWP.seqB ?_ | refine AWP.block ?_ | refine AWP.skipN ?_ | refine AWP.skip ?_ | refine AWP.exit ?_ | refine AWP.ret ?_ | refine LoopN.succ ?_ | refine thenS_n ?_ | refine thenS_x ?_ | refine thenS_r ?_ | refine blockS_n ?_ | refine blockS_r ?_ | refine blockS_x ?_ | refine blockS_y (by decide) ?_)
    | ((with_reducible refine hK _ ?_); clear hK K) | ((with_reducible refine hKt ?_); clear hKt hKf Kt Kf) | ((with_reducible refine hKf ?_); clear hKt hKf Kt Kf) | ((with_reducible refine condP_split (fun hg => hKt ?_) (fun hg => hKf ?_)) <;> clear hKt hKf Kt Kf <;> (try simp only [List.length_take, List.length_drop, List.length_append, List.length_cons, List.length_nil, List.length_map, decide_eq_true_eq, decide_eq_false_iff_not, Bool.not_eq_true', Bool.not_eq_false', Int.not_lt, Int.not_le] at hg) <;> try (exfalso; omega))
    | ((first | with_reducible (first | refine retSB_ret [] ?_ | refine retSB_end [] ?_ | refine retSF_ret [] ?_ | refine retSF_end [] ?_)); simp -implicitDefEqProofs only [noE, noEL, noELL, frozT, frozTL, boxesOf, stALL, okB, okBL, okBLL, rnB, rnBL, rnBLL, posN, nodupN, bxIds, Int.cast_ofNat_Int, hn, mvcgen_simp, reduceIte, reduceCtorEq, Nat.reduceLT, Nat.reduceGT, Nat.reduceLeDiff, Nat.reduceAdd, Nat.reduceSub, Nat.reduceMul, Nat.reduceBEq, Int.reduceToNat, Int.reduceLT, Int.reduceLE, Int.reduceAdd, Int.reduceSub, Int.reduceMul, Int.reduceNeg, Int.reducePow, Int.reduceEq, Int.reduceNe, Nat.reduceEqDiff]; try simp (disch := omega) only [Int.tdiv_eq_ediv_of_nonneg, Int.tmod_eq_emod_of_nonneg, getD_take', bitop_or_256, Go.IntWalk.i64_in, Go.IntWalk.u8_in, Go.IntWalk.u64_in, Go.IntWalk.u32_in])
    | ((first | with_reducible (first | refine AWP.seqRB [0,1,4,5,6,11,12,13,16,19] fun K hK => ?_ | refine AWP.lastRB [0,1,4,5,6,11,12,13,16,19] fun K hK => ?_ | refine AWP.seqC fun Kt Kf hKt hKf => ?_ | refine AWP.condK fun Kt Kf hKt hKf => ?_ | refine retS_ret ?_ | refine retS_end ?_) | refine callE_P (f65_ok x) ?_ | refine callP_intro2 (f65_ok x) ?_ | refine callE_X (f65_ok x) ?_ | refine callE_P (f65_ok y) ?_ | refine callP_intro2 (f65_ok y) ?_ | refine callE_X (f65_ok y) ?_); simp -implicitDefEqProofs only [callSt, scalarAV, scalarL, posOf, posL, ansOk, ansOkL, ren3, ren3L, nm, List.nodup_cons, List.not_mem_nil, List.nodup_nil, List.mem_cons, Int.cast_ofNat_Int, hn, mvcgen_simp, reduceIte, reduceCtorEq, Nat.reduceLT, Nat.reduceGT, Nat.reduceLeDiff, Nat.reduceAdd, Nat.reduceSub, Nat.reduceMul, Nat.reduceBEq, Int.reduceToNat, Int.reduceLT, Int.reduceLE, Int.reduceAdd, Int.reduceSub, Int.reduceMul, Int.reduceNeg, Int.reducePow, Int.reduceEq, Int.reduceNe, Nat.reduceEqDiff]; try simp (disch := omega) only [Int.tdiv_eq_ediv_of_nonneg, Int.tmod_eq_emod_of_nonneg, getD_take', bitop_or_256, Go.IntWalk.i64_in, Go.IntWalk.u8_in, Go.IntWalk.u64_in, Go.IntWalk.u32_in])
    | ((with_reducible refine guardP_split (fun hg => ?_) (fun hg => ?_)) <;> simp -implicitDefEqProofs only [hg, Int.cast_ofNat_Int, hn, mvcgen_simp, reduceIte, reduceCtorEq, Nat.reduceLT, Nat.reduceGT, Nat.reduceLeDiff, Nat.reduceAdd, Nat.reduceSub, Nat.reduceMul, Nat.reduceBEq, Int.reduceToNat, Int.reduceLT, Int.reduceLE, Int.reduceAdd, Int.reduceSub, Int.reduceMul, Int.reduceNeg, Int.reducePow, Int.reduceEq, Int.reduceNe, Nat.reduceEqDiff] <;> (try simp (disch := omega) only [Int.tdiv_eq_ediv_of_nonneg, Int.tmod_eq_emod_of_nonneg, getD_take', bitop_or_256, Go.IntWalk.i64_in, Go.IntWalk.u8_in, Go.IntWalk.u64_in, Go.IntWalk.u32_in]) <;> try simp only [List.length_take, List.length_drop, List.length_append, List.length_cons, List.length_nil, List.length_map, decide_eq_true_eq, decide_eq_false_iff_not, Bool.not_eq_true', Bool.not_eq_false', Int.not_lt, Int.not_le] at hg)
    | with_reducible refine And.intro (by first | omega | (simp only [List.length_take, List.length_drop, List.length_append, List.length_cons, List.length_nil, List.length_map, List.length_replicate, List.length_set, List.length_range]; omega)) ?_
    | (exfalso; omega)
  all_goals rw [e]
  all_goals repeat (first | rw [if_pos (by omega)] | rw [if_neg (by omega)])
theorem f57_ok (i : CI) : CallsP Tryd.prog 57 [i.av] (.bool (plainS i)) := by
  obtain ⟨k, n, bn, b, kn, ks⟩ := i
  have e : plainS (.mk k n bn b kn ks) = (decide (1 ≤ k) && decide (k ≤ 4)) := rfl
  simp only [CI.av]
  refine CallsP.intro Tryd.func57 rfl (by show 1 ≤ 11; decide) ?_
  rintro X hX
  have hn : X.n = 11 := hX
  unfold Tryd.f57
  dsimp only
  rw [entry1]
  repeat' first
    | with_reducible (first | refine AWP.seqA ?_ | refine AWP.seqB ?_ | refine AWP.block ?_ | refine AWP.skipN ?_ | refine AWP.skip ?_ | refine AWP.exit ?_ | refine AWP.ret ?_ | refine LoopN.succ ?_ | refine thenS_n ?_ | refine thenS_x ?_ | refine thenS_r ?_ | refine blockS_n ?_ | refine blockS_r ?_ | refine blockS_x ?_ | refine blockS_y (by decide) ?_)
    | ((with_reducible refine hK _ ?_); clear hK K) | ((with_reducible refine hKt ?_); clear hKt hKf Kt Kf) | ((with_reducible refine hKf ?_); clear hKt hKf Kt Kf) | ((with_reducible refine condP_split (fun hg => hKt ?_) (fun hg => hKf ?_)) <;> clear hKt hKf Kt Kf <;> (try simp only [List.length_take, List.length_drop, List.length_append, List.length_cons, List.length_nil, List.length_map, decide_eq_true_eq, decide_eq_false_iff_not, Bool.not_eq_true', Bool.not_eq_false', Int.not_lt, Int.not_le] at hg) <;> try (exfalso; omega))
    | ((first | with_reducible (first | refine retSB_ret [] ?_ | refine retSB_end [] ?_ | refine retSF_ret [] ?_ | refine retSF_end [] ?_)); simp -implicitDefEqProofs only [noE, noEL, noELL, frozT, frozTL, boxesOf, stALL, okB, okBL, okBLL, rnB, rnBL, rnBLL, posN, nodupN, bxIds, Int.cast_ofNat_Int, hn, mvcgen_simp, reduceIte, reduceCtorEq, Nat.reduceLT, Nat.reduceGT, Nat.reduceLeDiff, Nat.reduceAdd, Nat.reduceSub, Nat.reduceMul, Nat.reduceBEq, Int.reduceToNat, Int.reduceLT, Int.reduceLE, Int.reduceAdd, Int.reduceSub, Int.reduceMul, Int.reduceNeg, Int.reducePow, Int.reduceEq, Int.reduceNe, Nat.reduceEqDiff]; try simp (disch := omega) only [Int.tdiv_eq_ediv_of_nonneg, Int.tmod_eq_emod_of_nonneg, getD_take', bitop_or_256, Go.IntWalk.i64_in, Go.IntWalk.u8_in, Go.IntWalk.u64_in, Go.IntWalk.u32_in])
    | ((first | with_reducible (first | refine AWP.seqRB [0,1,2] fun K hK => ?_ | refine AWP.lastRB [0,1,2] fun K hK => ?_ | refine AWP.seqC fun Kt Kf hKt hKf => ?_ | refine AWP.condK fun Kt Kf hKt hKf => ?_ | refine retS_ret ?_ | refine retS_end ?_)); simp -implicitDefEqProofs only [Int.cast_ofNat_Int, hn, mvcgen_simp, reduceIte, reduceCtorEq, Nat.reduceLT, Nat.reduceGT, Nat.reduceLeDiff, Nat.reduceAdd, Nat.reduceSub, Nat.reduceMul, Nat.reduceBEq, Int.reduceToNat, Int.reduceLT, Int.reduceLE, Int.reduceAdd, Int.reduceSub, Int.reduceMul, Int.reduceNeg, Int.reducePow, Int.reduceEq, Int.reduceNe, Nat.reduceEqDiff]; try simp (disch := omega) only [Int.tdiv_eq_ediv_of_nonneg, Int.tmod_eq_emod_of_nonneg, getD_take', bitop_or_256, Go.IntWalk.i64_in, Go.IntWalk.u8_in, Go.IntWalk.u64_in, Go.IntWalk.u32_in])
    | ((with_reducible refine guardP_split (fun hg => ?_) (fun hg => ?_)) <;> simp -implicitDefEqProofs only [hg, Int.cast_ofNat_Int, hn, mvcgen_simp, reduceIte, reduceCtorEq, Nat.reduceLT, Nat.reduceGT, Nat.reduceLeDiff, Nat.reduceAdd, Nat.reduceSub, Nat.reduceMul, Nat.reduceBEq, Int.reduceToNat, Int.reduceLT, Int.reduceLE, Int.reduceAdd, Int.reduceSub, Int.reduceMul, Int.reduceNeg, Int.reducePow, Int.reduceEq, Int.reduceNe, Nat.reduceEqDiff] <;> (try simp (disch := omega) only [Int.tdiv_eq_ediv_of_nonneg, Int.tmod_eq_emod_of_nonneg, getD_take', bitop_or_256, Go.IntWalk.i64_in, Go.IntWalk.u8_in, Go.IntWalk.u64_in, Go.IntWalk.u32_in]) <;> try simp only [List.length_take, List.length_drop, List.length_append, List.length_cons, List.length_nil, List.length_map, decide_eq_true_eq, decide_eq_false_iff_not, Bool.not_eq_true', Bool.not_eq_false', Int.not_lt, Int.not_le] at hg)
    | with_reducible refine And.intro (by first | omega | (simp only [List.length_take, List.length_drop, List.length_append, List.length_cons, List.length_nil, List.length_map, List.length_replicate, List.length_set, List.length_range]; omega)) ?_
    | (exfalso; omega)
  · rw [e, decide_eq_true (show 1 ≤ k by omega), Bool.true_and]
    congr 1
    exact decide_eq_decide.2 (by omega)
  · rw [e, decide_eq_false (show ¬ 1 ≤ k by omega), Bool.false_and]
theorem f58_ok (i j : CI) : CallsP Tryd.prog 58 [i.av, j.av] (.int .i64 (orderS i j)) := by
  obtain ⟨k, n, bn, b, kn, ks⟩ := i
  obtain ⟨k', n', bn', b', kn', ks'⟩ := j
  have e : orderS (.mk k n bn b kn ks) (.mk k' n' bn' b' kn' ks') = if k ≠ k' then cmpN k k' else if k ≤ 2 then cmpN n n' else if b.length ≠ b'.length then cmpN b.length b'.length else cmpB b b' := rfl
  simp only [CI.av]
  refine CallsP.intro Tryd.func58 rfl (by show 2 ≤ 42; decide) ?_
  rintro X hX
  have hn : X.n = 42 := hX
  unfold Tryd.f58
  dsimp only
  rw [entry2]
  repeat' first
    | with_reducible (first | refine AWP.seqA ?_ | refine AWP.seqB ?_ | refine AWP.block ?_ | refine AWP.skipN ?_ | refine AWP.skip ?_ | refine AWP.exit ?_ | refine AWP.ret ?_ | refine LoopN.succ ?_ | refine thenS_n ?_ | refine thenS_x ?_ | refine thenS_r ?_ | refine blockS_n ?_ | refine blockS_r ?_ | refine blockS_x ?_ | refine blockS_y (by decide) ?_)
    | ((with_reducible refine hK _ ?_); clear hK K) | ((with_reducible refine hKt ?_); clear hKt hKf Kt Kf) | ((with_reducible refine hKf ?_); clear hKt hKf Kt Kf) | ((with_reducible refine condP_split (fun hg => hKt ?_) (fun hg => hKf ?_)) <;> clear hKt hKf Kt Kf <;> (try simp only [List.length_take, List.length_drop, List.length_append, List.length_cons, List.length_nil, List.length_map, decide_eq_true_eq, decide_eq_false_iff_not, Bool.not_eq_true', Bool.not_eq_false', Int.not_lt, Int.not_le] at hg) <;> try (exfalso; omega))
    | ((first | with_reducible (first | refine retSB_ret [] ?_ | refine retSB_end [] ?_ | refine retSF_ret [] ?_ | refine retSF_end [] ?_)); simp -implicitDefEqProofs only [noE, noEL, noELL, frozT, frozTL, boxesOf, stALL, okB, okBL, okBLL, rnB, rnBL, rnBLL, posN, nodupN, bxIds, Int.cast_ofNat_Int, hn, mvcgen_simp, reduceIte, reduceCtorEq, Nat.reduceLT, Nat.reduceGT, Nat.reduceLeDiff, Nat.reduceAdd, Nat.reduceSub, Nat.reduceMul, Nat.reduceBEq, Int.reduceToNat, Int.reduceLT, Int.reduceLE, Int.reduceAdd, Int.reduceSub, Int.reduceMul, Int.reduceNeg, Int.reducePow, Int.reduceEq, Int.reduceNe, Nat.reduceEqDiff]; try simp (disch := omega) only [Int.tdiv_eq_ediv_of_nonneg, Int.tmod_eq_emod_of_nonneg, getD_take', bitop_or_256, Go.IntWalk.i64_in, Go.IntWalk.u8_in, Go.IntWalk.u64_in, Go.IntWalk.u32_in])
    | ((first | with_reducible (first | refine AWP.seqRB [0,1,2,3,4,9,17,29] fun K hK => ?_ | refine AWP.lastRB [0,1,2,3,4,9,17,29] fun K hK => ?_ | refine AWP.seqC fun Kt Kf hKt hKf => ?_ | refine AWP.condK fun Kt Kf hKt hKf => ?_ | refine retS_ret ?_ | refine retS_end ?_) | refine callE_P (f59_ok k k') ?_ | refine callP_intro2 (f59_ok k k') ?_ | refine callE_X (f59_ok k k') ?_ | refine callE_P (f60_ok n n') ?_ | refine callP_intro2 (f60_ok n n') ?_ | refine callE_X (f60_ok n n') ?_ | refine callE_P (f61_ok b.length b'.length) ?_ | refine callP_intro2 (f61_ok b.length b'.length) ?_ | refine callE_X (f61_ok b.length b'.length) ?_ | refine callE_P (f62_ok bn bn' b b') ?_ | refine callP_intro2 (f62_ok bn bn' b b') ?_ | refine callE_X (f62_ok bn bn' b b') ?_); simp -implicitDefEqProofs only [callSt, scalarAV, scalarL, posOf, posL, ansOk, ansOkL, ren3, ren3L, nm, List.nodup_cons, List.not_mem_nil, List.nodup_nil, List.mem_cons, Int.cast_ofNat_Int, hn, mvcgen_simp, reduceIte, reduceCtorEq, Nat.reduceLT, Nat.reduceGT, Nat.reduceLeDiff, Nat.reduceAdd, Nat.reduceSub, Nat.reduceMul, Nat.reduceBEq, Int.reduceToNat, Int.reduceLT, Int.reduceLE, Int.reduceAdd, Int.reduceSub, Int.reduceMul, Int.reduceNeg, Int.reducePow, Int.reduceEq, Int.reduceNe, Nat.reduceEqDiff]; try simp (disch := omega) only [Int.tdiv_eq_ediv_of_nonneg, Int.tmod_eq_emod_of_nonneg, getD_take', bitop_or_256, Go.IntWalk.i64_in, Go.IntWalk.u8_in, Go.IntWalk.u64_in, Go.IntWalk.u32_in])
    | ((with_reducible refine guardP_split (fun hg => ?_) (fun hg => ?_)) <;> simp -implicitDefEqProofs only [hg, Int.cast_ofNat_Int, hn, mvcgen_simp, reduceIte, reduceCtorEq, Nat.reduceLT, Nat.reduceGT, Nat.reduceLeDiff, Nat.reduceAdd, Nat.reduceSub, Nat.reduceMul, Nat.reduceBEq, Int.reduceToNat, Int.reduceLT, Int.reduceLE, Int.reduceAdd, Int.reduceSub, Int.reduceMul, Int.reduceNeg, Int.reducePow, Int.reduceEq, Int.reduceNe, Nat.reduceEqDiff] <;> (try simp (disch := omega) only [Int.tdiv_eq_ediv_of_nonneg, Int.tmod_eq_emod_of_nonneg, getD_take', bitop_or_256, Go.IntWalk.i64_in, Go.IntWalk.u8_in, Go.IntWalk.u64_in, Go.IntWalk.u32_in]) <;> try simp only [List.length_take, List.length_drop, List.length_append, List.length_cons, List.length_nil, List.length_map, decide_eq_true_eq, decide_eq_false_iff_not, Bool.not_eq_true', Bool.not_eq_false', Int.not_lt, Int.not_le] at hg)
    | with_reducible refine And.intro (by first | omega | (simp only [List.length_take, List.length_drop, List.length_append, List.length_cons, List.length_nil, List.length_map, List.length_replicate, List.length_set, List.length_range]; omega)) ?_
    | (exfalso; omega)
  all_goals rw [e]
  all_goals repeat (first | rw [if_pos (by omega)] | rw [if_neg (by omega)])
end Go.Proofs.YtijcpdgfbboamaaDoor
