/- The law CborNumbers' code answers true for every number, kind and size. -/
import Derived.Test.YtijcpdgfbboamaaDoorVsCAwake
open Go Go.VS
namespace Go.Proofs.YtijcpdgfbboamaaDoor
set_option linter.unusedVariables false
set_option linter.unusedSimpArgs false
set_option maxRecDepth 20000
set_option maxHeartbeats 4000000
/-- A number's bytes, the greatest first. -/
def dn (n : Nat) : Nat → List UInt8
  | 0 => []
  | k + 1 => UInt8.ofNat (n / 256 ^ k) :: dn n k
theorem dn_len (n : Nat) : ∀ k, (dn n k).length = k
  | 0 => rfl
  | k + 1 => by simp [dn, dn_len n k]
theorem be_cons (c : UInt8) (l : List UInt8) : be (c :: l) = c.toNat * 256 ^ l.length + be l := by
  have go : ∀ (l : List UInt8) (a : Nat), l.foldl (fun n c => n * 256 + c.toNat) a = a * 256 ^ l.length + l.foldl (fun n c => n * 256 + c.toNat) 0 := by
    intro l
    induction l with
    | nil => intro a; simp
    | cons x l ih =>
      intro a
      simp only [List.foldl_cons, List.length_cons]
      rw [ih (a * 256 + x.toNat), ih (0 * 256 + x.toNat), Nat.pow_succ, Nat.add_mul, Nat.zero_mul, Nat.zero_add, Nat.mul_assoc, Nat.mul_comm 256, Nat.add_assoc]
  unfold be
  rw [List.foldl_cons, go]
  simp
theorem be_dn (n : Nat) : ∀ k, be (dn n k) = n % 256 ^ k
  | 0 => by simp [dn, be, Nat.mod_one]
  | k + 1 => by
    have h := @Nat.mod_mul (256 ^ k) 256 n
    rw [dn, be_cons, dn_len, be_dn n k, UInt8.toNat_ofNat', show 256 ^ (k + 1) = 256 ^ k * 256 from Nat.pow_succ .., h]
    show n / 256 ^ k % 256 * 256 ^ k + n % 256 ^ k = _
    rw [Nat.mul_comm, Nat.add_comm]
def shortN (z low : Nat) : Bool := (decide (z = 0) && decide (low < 24)) || (decide (0 < z) && decide (low / 2 ^ (4 * 2 ^ z) = 0))
theorem whole_num (valid : List UInt8 → Bool) (n m z : Nat) (hm : m < 2) (hz : z < 4) (c : UInt8) (hc : c.toNat = 32 * m + 24 + z) :
    wholeS valid (c :: dn n (2 ^ z)) = if shortN z (n % 256 ^ 2 ^ z) = true then (.zero, 22) else (.mk (m + 1) (n % 256 ^ 2 ^ z) true [] true [], 0) := by
  have hlen : (dn n (2 ^ z)).length = 2 ^ z := dn_len n _
  have hz8 : 2 ^ z ≤ 8 := Nat.le_trans (Nat.pow_le_pow_right (by decide) (show z ≤ 3 by omega)) (by decide)
  have hh : headS ⟨c :: dn n (2 ^ z), 1, 0⟩ = (m, n % 256 ^ 2 ^ z, ⟨[], 1, if shortN z (n % 256 ^ 2 ^ z) = true then 22 else 0⟩) := by
    have e1 : (c :: dn n (2 ^ z)).getD 0 default = c := rfl
    have e2 : (c :: dn n (2 ^ z)).drop 1 = dn n (2 ^ z) := rfl
    have e3 : c.toNat % 32 = 24 + z := by omega
    have e4 : c.toNat / 32 = m := by omega
    unfold headS
    rw [if_neg (by simp)]
    simp only [e1, e2, e3, e4]
    rw [if_neg (by omega), show 24 + z - 24 = z by omega, if_neg (by rw [hlen]; omega), List.take_of_length_le (by rw [hlen]; exact Nat.le_refl _), List.drop_of_length_le (by rw [hlen]; exact Nat.le_refl _), be_dn]
    generalize n % 256 ^ 2 ^ z = low
    have hq : ((2 ^ z = 1 ∧ low < 24) ∨ (1 < 2 ^ z ∧ low / 2 ^ (4 * 2 ^ z) = 0)) ↔ shortN z low = true := by
      unfold shortN
      have a1 : 2 ^ z = 1 ↔ z = 0 := by
        match z, hz with
        | 0, _ => simp
        | 1, _ => simp
        | 2, _ => simp
        | 3, _ => simp
      have a2 : 1 < 2 ^ z ↔ 0 < z := by
        match z, hz with
        | 0, _ => simp
        | 1, _ => simp
        | 2, _ => simp
        | 3, _ => simp
      simp [a1, a2]
    by_cases h : shortN z low = true
    · rw [if_pos (hq.2 h), if_pos h]; rfl
    · rw [if_neg (fun x => h (hq.1 x)), if_neg h]
  have hit : itemS valid 8 ⟨c :: dn n (2 ^ z), 0, 0⟩ = if shortN z (n % 256 ^ 2 ^ z) = true then (.zero, ⟨[], 1, 22⟩) else (.mk (m + 1) (n % 256 ^ 2 ^ z) true [] true [], ⟨[], 1, 0⟩) := by
    unfold itemS
    simp only [Nat.zero_add]
    rw [if_neg (by decide), hh]
    by_cases h : shortN z (n % 256 ^ 2 ^ z) = true
    · rw [if_pos h, if_pos h]; rfl
    · rw [if_neg h, if_neg h]
      simp only
      rw [if_neg (by simp)]
      match m, hm with
      | 0, _ => rfl
      | 1, _ => rfl
  have hd : decS valid (c :: dn n (2 ^ z)) = if shortN z (n % 256 ^ 2 ^ z) = true then (.zero, none, 22) else (.mk (m + 1) (n % 256 ^ 2 ^ z) true [] true [], some [], 0) := by
    unfold decS
    rw [if_neg (by rw [List.length_cons, hlen]; omega)]
    simp only
    rw [hit]
    by_cases h : shortN z (n % 256 ^ 2 ^ z) = true
    · rw [if_pos h, if_pos h]; rfl
    · rw [if_neg h, if_neg h]; rfl
  unfold wholeS
  simp only
  rw [hd]
  by_cases h : shortN z (n % 256 ^ 2 ^ z) = true
  · rw [if_pos h, if_pos h]; rfl
  · rw [if_neg h, if_neg h]; rfl
theorem hb_all : ∀ m : Nat, m < 2 → ∀ z : Nat, z < 4 → bitop .or .u8 (IntKind.u8.wrap ((m : Int) * 2 ^ min 5 IntKind.u8.bits)) (24 + (z : Int)) = ((32 * m + 24 + z : Nat) : Int) := by
  intro m hm z hz
  match m, hm, z, hz with
  | 0, _, 0, _ => decide
  | 0, _, 1, _ => decide
  | 0, _, 2, _ => decide
  | 0, _, 3, _ => decide
  | 1, _, 0, _ => decide
  | 1, _, 1, _ => decide
  | 1, _, 2, _ => decide
  | 1, _, 3, _ => decide
theorem hw_all : ∀ z : Nat, z < 4 → IntKind.i64.wrap (IntKind.i64.wrap (1 * 2 ^ min z IntKind.i64.bits) - 1) = ((2 ^ z : Nat) : Int) - 1 := by
  intro z hz
  match z, hz with
  | 0, _ => decide
  | 1, _ => decide
  | 2, _ => decide
  | 3, _ => decide
theorem byteN (n k : Nat) (hk : k ≤ 7) : IntKind.u8.wrap ((n : Int).fdiv (2 ^ min (8 * (((k + 1 : Nat) : Int) - 1)).toNat IntKind.u64.bits)) = ((UInt8.ofNat (n / 256 ^ k)).toNat : Int) := by
  have e : (8 * (((k + 1 : Nat) : Int) - 1)).toNat = 8 * k := by omega
  have eb : IntKind.u64.bits = 64 := rfl
  have e2 : (2 : Int) ^ (8 * k) = ((256 ^ k : Nat) : Int) := by rw [Int.natCast_pow, Int.pow_mul]; rfl
  rw [e, eb, Nat.min_eq_left (by omega), e2, Int.fdiv_eq_ediv_of_nonneg _ (Int.natCast_nonneg _), ← Int.natCast_ediv, UInt8.toNat_ofNat']
  generalize n / 256 ^ k = x
  unfold IntKind.wrap
  simp [IntKind.bits, IntKind.signed]
theorem and_m (n k : Nat) (hn : n < 18446744073709551616) (hk : k < 64) : bitop .and .u64 (n : Int) ((2 ^ k - 1 : Nat) : Int) = ((n % 2 ^ k : Nat) : Int) := by
  have h : 2 ^ k ≤ 2 ^ 63 := Nat.pow_le_pow_right (by decide) (by omega)
  rw [and_nat n (2 ^ k - 1) hn (by omega), Nat.and_two_pow_sub_one_eq_mod]
theorem lw : IntKind.u64.wrap (8 * 2 ^ min 0 IntKind.u64.bits) = 8 ∧ IntKind.u64.wrap (8 * 2 ^ min 1 IntKind.u64.bits) = 16 ∧ IntKind.u64.wrap (8 * 2 ^ min 2 IntKind.u64.bits) = 32 ∧
    IntKind.u64.wrap (IntKind.u64.wrap (1 * 2 ^ min 8 IntKind.u64.bits) - 1) = 255 ∧ IntKind.u64.wrap (IntKind.u64.wrap (1 * 2 ^ min 16 IntKind.u64.bits) - 1) = 65535 ∧ IntKind.u64.wrap (IntKind.u64.wrap (1 * 2 ^ min 32 IntKind.u64.bits) - 1) = 4294967295 ∧
    IntKind.u64.wrap (4 * 2 ^ min 1 IntKind.u64.bits) = 8 ∧ IntKind.u64.wrap (4 * 2 ^ min 2 IntKind.u64.bits) = 16 ∧ IntKind.u64.wrap (4 * 2 ^ min 3 IntKind.u64.bits) = 32 ∧ min 8 IntKind.u64.bits = 8 ∧ min 16 IntKind.u64.bits = 16 ∧ min 32 IntKind.u64.bits = 32 := by decide
theorem fdv (x : Nat) : (x : Int).fdiv 256 = ((x / 256 : Nat) : Int) ∧ (x : Int).fdiv 65536 = ((x / 65536 : Nat) : Int) ∧ (x : Int).fdiv 4294967296 = ((x / 4294967296 : Nat) : Int) := by
  refine ⟨?_, ?_, ?_⟩ <;> rw [Int.fdiv_eq_ediv_of_nonneg _ (by decide)] <;> omega
theorem f5_ok (n : Nat) (mm ss : UInt8) (hn0 : n < 18446744073709551616) : CallsP Tryd.prog 5 [.int .u64 (n : Int), .int .u8 mm.toNat, .int .u8 ss.toNat] (.bool true) := by
  obtain ⟨m, hm⟩ : ∃ m, mm.toNat % 2 = m := ⟨_, rfl⟩
  obtain ⟨z, hz⟩ : ∃ z, ss.toNat % 4 = z := ⟨_, rfl⟩
  have hm2 : m < 2 := by omega
  have hz4 : z < 4 := by omega
  have em : (mm.toNat : Int) % 2 = (m : Int) := by omega
  have ez : (ss.toNat : Int) % 4 = (z : Int) := by omega
  have hb := hb_all m hm2 z hz4
  have hw := hw_all z hz4
  obtain ⟨c, hc⟩ : ∃ c : UInt8, c.toNat = 32 * m + 24 + z := ⟨UInt8.ofNat (32 * m + 24 + z), by rw [UInt8.toNat_ofNat']; simp only [Nat.reducePow]; omega⟩
  rw [← hc] at hb
  have hwn := whole_num Go.Lib.validD n m z hm2 hz4 c hc
  have hz8 : 2 ^ z ≤ 8 := Nat.le_trans (Nat.pow_le_pow_right (by decide) (show z ≤ 3 by omega)) (by decide)
  have c21 := f21_ok valid_ok false (c :: dn n (2 ^ z)) (fun h => by cases h) (by rw [List.length_cons, dn_len]; omega)
  rw [hwn] at c21
  clear hwn
  have hmt := mm.toNat_lt
  have hst := ss.toNat_lt
  refine CallsP.intro Tryd.func5 rfl (by show 3 ≤ 92; decide) ?_
  rintro X hX
  have hn : X.n = 92 := hX
  unfold Tryd.f5
  dsimp only
  rw [entry3]
  repeat' first
    | with_reducible (first | refine AWP.seqA ?_ | refine AWP.seqB ?_ | refine AWP.block ?_ | refine AWP.skipN ?_ | refine AWP.skip ?_ | refine AWP.exit ?_ | refine AWP.ret ?_ | refine LoopN.succ ?_ | refine thenS_n ?_ | refine thenS_x ?_ | refine thenS_r ?_ | refine blockS_n ?_ | refine blockS_r ?_ | refine blockS_x ?_ | refine blockS_y (by decide) ?_)
    | ((with_reducible refine hK _ ?_); clear hK K) | ((with_reducible refine hKt ?_); clear hKt hKf Kt Kf) | ((with_reducible refine hKf ?_); clear hKt hKf Kt Kf) | ((with_reducible refine condP_split (fun hg => hKt ?_) (fun hg => hKf ?_)) <;> clear hKt hKf Kt Kf <;> (try simp only [List.length_take, List.length_drop, List.length_append, List.length_cons, List.length_nil, List.length_map, decide_eq_true_eq, decide_eq_false_iff_not, Bool.not_eq_true', Bool.not_eq_false', Int.not_lt, Int.not_le] at hg) <;> try (exfalso; omega))
    | ((first | with_reducible (first | refine retSB_ret [] ?_ | refine retSB_end [] ?_ | refine retSF_ret [] ?_ | refine retSF_end [] ?_)); simp -implicitDefEqProofs only [noE, noEL, noELL, frozT, frozTL, boxesOf, stALL, okB, okBL, okBLL, rnB, rnBL, rnBLL, posN, nodupN, bxIds, u8, em, ez, hb, hw, Int.cast_ofNat_Int, hn, mvcgen_simp, reduceIte, reduceCtorEq, Nat.reduceLT, Nat.reduceGT, Nat.reduceLeDiff, Nat.reduceAdd, Nat.reduceSub, Nat.reduceMul, Nat.reduceBEq, Int.reduceToNat, Int.reduceLT, Int.reduceLE, Int.reduceAdd, Int.reduceSub, Int.reduceMul, Int.reduceNeg, Int.reducePow, Int.reduceEq, Int.reduceNe, Nat.reduceEqDiff]; try simp (disch := omega) only [Int.tdiv_eq_ediv_of_nonneg, Int.tmod_eq_emod_of_nonneg, getD_take', bitop_or_256, Go.IntWalk.i64_in, Go.IntWalk.u8_in, Go.IntWalk.u64_in, Go.IntWalk.u32_in])
    | ((first | with_reducible (first | refine AWP.seqRB [0,1,2,6,7,8,9,10,11,12,13,15,31,44,73] fun K hK => ?_ | refine AWP.lastRB [0,1,2,6,7,8,9,10,11,12,13,15,31,44,73] fun K hK => ?_ | refine AWP.seqC fun Kt Kf hKt hKf => ?_ | refine AWP.condK fun Kt Kf hKt hKf => ?_ | refine retS_ret ?_ | refine retS_end ?_) | refine callE_P (f17_ok) ?_ | refine callP_intro2 (f17_ok) ?_ | refine callE_X (f17_ok) ?_); simp -implicitDefEqProofs only [callSt, scalarAV, scalarL, posOf, posL, ansOk, ansOkL, ren3, ren3L, nm, List.nodup_cons, List.not_mem_nil, List.nodup_nil, List.mem_cons, u8, em, ez, hb, hw, Int.cast_ofNat_Int, hn, mvcgen_simp, reduceIte, reduceCtorEq, Nat.reduceLT, Nat.reduceGT, Nat.reduceLeDiff, Nat.reduceAdd, Nat.reduceSub, Nat.reduceMul, Nat.reduceBEq, Int.reduceToNat, Int.reduceLT, Int.reduceLE, Int.reduceAdd, Int.reduceSub, Int.reduceMul, Int.reduceNeg, Int.reducePow, Int.reduceEq, Int.reduceNe, Nat.reduceEqDiff]; try simp (disch := omega) only [Int.tdiv_eq_ediv_of_nonneg, Int.tmod_eq_emod_of_nonneg, getD_take', bitop_or_256, Go.IntWalk.i64_in, Go.IntWalk.u8_in, Go.IntWalk.u64_in, Go.IntWalk.u32_in])
    | ((with_reducible refine guardP_split (fun hg => ?_) (fun hg => ?_)) <;> simp -implicitDefEqProofs only [hg, u8, em, ez, hb, hw, Int.cast_ofNat_Int, hn, mvcgen_simp, reduceIte, reduceCtorEq, Nat.reduceLT, Nat.reduceGT, Nat.reduceLeDiff, Nat.reduceAdd, Nat.reduceSub, Nat.reduceMul, Nat.reduceBEq, Int.reduceToNat, Int.reduceLT, Int.reduceLE, Int.reduceAdd, Int.reduceSub, Int.reduceMul, Int.reduceNeg, Int.reducePow, Int.reduceEq, Int.reduceNe, Nat.reduceEqDiff] <;> (try simp (disch := omega) only [Int.tdiv_eq_ediv_of_nonneg, Int.tmod_eq_emod_of_nonneg, getD_take', bitop_or_256, Go.IntWalk.i64_in, Go.IntWalk.u8_in, Go.IntWalk.u64_in, Go.IntWalk.u32_in]) <;> try simp only [List.length_take, List.length_drop, List.length_append, List.length_cons, List.length_nil, List.length_map, decide_eq_true_eq, decide_eq_false_iff_not, Bool.not_eq_true', Bool.not_eq_false', Int.not_lt, Int.not_le] at hg)
    | with_reducible refine And.intro (by first | omega | (simp only [List.length_take, List.length_drop, List.length_append, List.length_cons, List.length_nil, List.length_map, List.length_replicate, List.length_set, List.length_range]; omega)) ?_
    | (exfalso; omega)
  refine AWP.loopX [0, 1, 7, 8, 9] [] (fun x : Nat × List UInt8 => St.mk (lk [(0, .int .u64 (n : Int)), (1, .int .u8 mm.toNat), (7, .int .i64 (z : Int)), (8, .sl (some ((0, 26), 0)) false 1 (.int .u8 c.toNat :: x.2.map u8)), (9, .int .i64 ((x.1 : Int) - 1))]) (lkB []) (hasS []) (hasS []) (hasN []) (lkR []))
    (fun x => x.1 ≤ 2 ^ z ∧ x.2 ++ dn n x.1 = dn n (2 ^ z)) (fun x => x.1) (2 ^ z, []) ?_ ⟨Nat.le_refl _, rfl⟩ ?_
  · simp -implicitDefEqProofs only [slim, dropBoxes_nil, dropBoxes_cons, dropBox_mk, dropAV, dropL, delB_nil, delB_cons, Int.cast_ofNat_Int, hn, mvcgen_simp, reduceIte, reduceCtorEq, Nat.reduceLT, Nat.reduceGT, Nat.reduceLeDiff, Nat.reduceAdd, Nat.reduceSub, Nat.reduceMul, Nat.reduceBEq, Int.reduceToNat, Int.reduceLT, Int.reduceLE, Int.reduceAdd, Int.reduceSub, Int.reduceMul, Int.reduceNeg, Int.reducePow, Int.reduceEq, Int.reduceNe, Nat.reduceEqDiff]
    try rfl
  rintro ⟨k, out⟩ ⟨hk, hd⟩
  simp only at hk hd
  have hol : out.length + k = 2 ^ z := by
    have := congrArg List.length hd
    rw [List.length_append, dn_len, dn_len] at this
    exact this
  cases k with
  | zero =>
    simp only [dn, List.append_nil] at hd
    subst hd
    have a0 := and_m n 8 hn0 (by decide)
    have a1 := and_m n 16 hn0 (by decide)
    have a2 := and_m n 32 hn0 (by decide)
    simp only [Nat.reducePow, Nat.reduceSub, Int.cast_ofNat_Int] at a0 a1 a2
    by_cases hsh : shortN z (n % 256 ^ 2 ^ z) = true
    · rw [if_pos hsh] at c21
      have c21' : CallsP Tryd.prog 21 [.sl none false 1 (.int .u8 c.toNat :: (dn n (2 ^ z)).map u8)] (.tup [CI.zero.av, .int .i64 22]) := c21
      clear c21
      simp only [zero_av] at c21'
      rcases (show z = 0 ∨ z = 1 ∨ z = 2 ∨ z = 3 by omega) with rfl | rfl | rfl | rfl
      · skip
        repeat' first
          | with_reducible (first | refine AWP.seqA ?_ | refine AWP.seqB ?_ | refine AWP.block ?_ | refine AWP.skipN ?_ | refine AWP.skip ?_ | refine AWP.exit ?_ | refine AWP.ret ?_ | refine LoopN.succ ?_ | refine thenS_n ?_ | refine thenS_x ?_ | refine thenS_r ?_ | refine blockS_n ?_ | refine blockS_r ?_ | refine blockS_x ?_ | refine blockS_y (by decide) ?_)
          | ((with_reducible refine hK _ ?_); clear hK K) | ((with_reducible refine hKt ?_); clear hKt hKf Kt Kf) | ((with_reducible refine hKf ?_); clear hKt hKf Kt Kf) | ((with_reducible refine condP_split (fun hg => hKt ?_) (fun hg => hKf ?_)) <;> clear hKt hKf Kt Kf <;> (try simp only [List.length_take, List.length_drop, List.length_append, List.length_cons, List.length_nil, List.length_map, decide_eq_true_eq, decide_eq_false_iff_not, Bool.not_eq_true', Bool.not_eq_false', Int.not_lt, Int.not_le] at hg) <;> try (exfalso; omega))
          | ((first | with_reducible (first | refine retSB_ret [] ?_ | refine retSB_end [] ?_ | refine retSF_ret [] ?_ | refine retSF_end [] ?_)); simp -implicitDefEqProofs only [noE, noEL, noELL, frozT, frozTL, boxesOf, stALL, okB, okBL, okBLL, rnB, rnBL, rnBLL, posN, nodupN, bxIds, u8, em, ez, a0, a1, a2, lw, fdv, Int.cast_ofNat_Int, hn, mvcgen_simp, reduceIte, reduceCtorEq, Nat.reduceLT, Nat.reduceGT, Nat.reduceLeDiff, Nat.reduceAdd, Nat.reduceSub, Nat.reduceMul, Nat.reduceBEq, Int.reduceToNat, Int.reduceLT, Int.reduceLE, Int.reduceAdd, Int.reduceSub, Int.reduceMul, Int.reduceNeg, Int.reducePow, Int.reduceEq, Int.reduceNe, Nat.reduceEqDiff]; try simp (disch := omega) only [Int.tdiv_eq_ediv_of_nonneg, Int.tmod_eq_emod_of_nonneg, getD_take', bitop_or_256, Go.IntWalk.i64_in, Go.IntWalk.u8_in, Go.IntWalk.u64_in, Go.IntWalk.u32_in])
          | ((first | with_reducible (first | refine AWP.seqRB [0,1,2,6,7,8,9,10,11,12,13,15,31,44,73] fun K hK => ?_ | refine AWP.lastRB [0,1,2,6,7,8,9,10,11,12,13,15,31,44,73] fun K hK => ?_ | refine AWP.seqC fun Kt Kf hKt hKf => ?_ | refine AWP.condK fun Kt Kf hKt hKf => ?_ | refine retS_ret ?_ | refine retS_end ?_) | refine callE_P (c21') ?_ | refine callP_intro2 (c21') ?_ | refine callE_X (c21') ?_); simp -implicitDefEqProofs only [callSt, scalarAV, scalarL, posOf, posL, ansOk, ansOkL, ren3, ren3L, nm, List.nodup_cons, List.not_mem_nil, List.nodup_nil, List.mem_cons, u8, em, ez, a0, a1, a2, lw, fdv, Int.cast_ofNat_Int, hn, mvcgen_simp, reduceIte, reduceCtorEq, Nat.reduceLT, Nat.reduceGT, Nat.reduceLeDiff, Nat.reduceAdd, Nat.reduceSub, Nat.reduceMul, Nat.reduceBEq, Int.reduceToNat, Int.reduceLT, Int.reduceLE, Int.reduceAdd, Int.reduceSub, Int.reduceMul, Int.reduceNeg, Int.reducePow, Int.reduceEq, Int.reduceNe, Nat.reduceEqDiff]; try simp (disch := omega) only [Int.tdiv_eq_ediv_of_nonneg, Int.tmod_eq_emod_of_nonneg, getD_take', bitop_or_256, Go.IntWalk.i64_in, Go.IntWalk.u8_in, Go.IntWalk.u64_in, Go.IntWalk.u32_in])
          | ((with_reducible refine guardP_split (fun hg => ?_) (fun hg => ?_)) <;> simp -implicitDefEqProofs only [hg, u8, em, ez, a0, a1, a2, lw, fdv, Int.cast_ofNat_Int, hn, mvcgen_simp, reduceIte, reduceCtorEq, Nat.reduceLT, Nat.reduceGT, Nat.reduceLeDiff, Nat.reduceAdd, Nat.reduceSub, Nat.reduceMul, Nat.reduceBEq, Int.reduceToNat, Int.reduceLT, Int.reduceLE, Int.reduceAdd, Int.reduceSub, Int.reduceMul, Int.reduceNeg, Int.reducePow, Int.reduceEq, Int.reduceNe, Nat.reduceEqDiff] <;> (try simp (disch := omega) only [Int.tdiv_eq_ediv_of_nonneg, Int.tmod_eq_emod_of_nonneg, getD_take', bitop_or_256, Go.IntWalk.i64_in, Go.IntWalk.u8_in, Go.IntWalk.u64_in, Go.IntWalk.u32_in]) <;> try simp only [List.length_take, List.length_drop, List.length_append, List.length_cons, List.length_nil, List.length_map, decide_eq_true_eq, decide_eq_false_iff_not, Bool.not_eq_true', Bool.not_eq_false', Int.not_lt, Int.not_le] at hg)
          | with_reducible refine And.intro (by first | omega | (simp only [List.length_take, List.length_drop, List.length_append, List.length_cons, List.length_nil, List.length_map, List.length_replicate, List.length_set, List.length_range]; omega)) ?_
          | (exfalso; omega)
        all_goals (exfalso; simp [shortN] at hsh; omega)
      · skip
        repeat' first
          | with_reducible (first | refine AWP.seqA ?_ | refine AWP.seqB ?_ | refine AWP.block ?_ | refine AWP.skipN ?_ | refine AWP.skip ?_ | refine AWP.exit ?_ | refine AWP.ret ?_ | refine LoopN.succ ?_ | refine thenS_n ?_ | refine thenS_x ?_ | refine thenS_r ?_ | refine blockS_n ?_ | refine blockS_r ?_ | refine blockS_x ?_ | refine blockS_y (by decide) ?_)
          | ((with_reducible refine hK _ ?_); clear hK K) | ((with_reducible refine hKt ?_); clear hKt hKf Kt Kf) | ((with_reducible refine hKf ?_); clear hKt hKf Kt Kf) | ((with_reducible refine condP_split (fun hg => hKt ?_) (fun hg => hKf ?_)) <;> clear hKt hKf Kt Kf <;> (try simp only [List.length_take, List.length_drop, List.length_append, List.length_cons, List.length_nil, List.length_map, decide_eq_true_eq, decide_eq_false_iff_not, Bool.not_eq_true', Bool.not_eq_false', Int.not_lt, Int.not_le] at hg) <;> try (exfalso; omega))
          | ((first | with_reducible (first | refine retSB_ret [] ?_ | refine retSB_end [] ?_ | refine retSF_ret [] ?_ | refine retSF_end [] ?_)); simp -implicitDefEqProofs only [noE, noEL, noELL, frozT, frozTL, boxesOf, stALL, okB, okBL, okBLL, rnB, rnBL, rnBLL, posN, nodupN, bxIds, u8, em, ez, a0, a1, a2, lw, fdv, Int.cast_ofNat_Int, hn, mvcgen_simp, reduceIte, reduceCtorEq, Nat.reduceLT, Nat.reduceGT, Nat.reduceLeDiff, Nat.reduceAdd, Nat.reduceSub, Nat.reduceMul, Nat.reduceBEq, Int.reduceToNat, Int.reduceLT, Int.reduceLE, Int.reduceAdd, Int.reduceSub, Int.reduceMul, Int.reduceNeg, Int.reducePow, Int.reduceEq, Int.reduceNe, Nat.reduceEqDiff]; try simp (disch := omega) only [Int.tdiv_eq_ediv_of_nonneg, Int.tmod_eq_emod_of_nonneg, getD_take', bitop_or_256, Go.IntWalk.i64_in, Go.IntWalk.u8_in, Go.IntWalk.u64_in, Go.IntWalk.u32_in])
          | ((first | with_reducible (first | refine AWP.seqRB [0,1,2,6,7,8,9,10,11,12,13,15,31,44,73] fun K hK => ?_ | refine AWP.lastRB [0,1,2,6,7,8,9,10,11,12,13,15,31,44,73] fun K hK => ?_ | refine AWP.seqC fun Kt Kf hKt hKf => ?_ | refine AWP.condK fun Kt Kf hKt hKf => ?_ | refine retS_ret ?_ | refine retS_end ?_) | refine callE_P (c21') ?_ | refine callP_intro2 (c21') ?_ | refine callE_X (c21') ?_); simp -implicitDefEqProofs only [callSt, scalarAV, scalarL, posOf, posL, ansOk, ansOkL, ren3, ren3L, nm, List.nodup_cons, List.not_mem_nil, List.nodup_nil, List.mem_cons, u8, em, ez, a0, a1, a2, lw, fdv, Int.cast_ofNat_Int, hn, mvcgen_simp, reduceIte, reduceCtorEq, Nat.reduceLT, Nat.reduceGT, Nat.reduceLeDiff, Nat.reduceAdd, Nat.reduceSub, Nat.reduceMul, Nat.reduceBEq, Int.reduceToNat, Int.reduceLT, Int.reduceLE, Int.reduceAdd, Int.reduceSub, Int.reduceMul, Int.reduceNeg, Int.reducePow, Int.reduceEq, Int.reduceNe, Nat.reduceEqDiff]; try simp (disch := omega) only [Int.tdiv_eq_ediv_of_nonneg, Int.tmod_eq_emod_of_nonneg, getD_take', bitop_or_256, Go.IntWalk.i64_in, Go.IntWalk.u8_in, Go.IntWalk.u64_in, Go.IntWalk.u32_in])
          | ((with_reducible refine guardP_split (fun hg => ?_) (fun hg => ?_)) <;> simp -implicitDefEqProofs only [hg, u8, em, ez, a0, a1, a2, lw, fdv, Int.cast_ofNat_Int, hn, mvcgen_simp, reduceIte, reduceCtorEq, Nat.reduceLT, Nat.reduceGT, Nat.reduceLeDiff, Nat.reduceAdd, Nat.reduceSub, Nat.reduceMul, Nat.reduceBEq, Int.reduceToNat, Int.reduceLT, Int.reduceLE, Int.reduceAdd, Int.reduceSub, Int.reduceMul, Int.reduceNeg, Int.reducePow, Int.reduceEq, Int.reduceNe, Nat.reduceEqDiff] <;> (try simp (disch := omega) only [Int.tdiv_eq_ediv_of_nonneg, Int.tmod_eq_emod_of_nonneg, getD_take', bitop_or_256, Go.IntWalk.i64_in, Go.IntWalk.u8_in, Go.IntWalk.u64_in, Go.IntWalk.u32_in]) <;> try simp only [List.length_take, List.length_drop, List.length_append, List.length_cons, List.length_nil, List.length_map, decide_eq_true_eq, decide_eq_false_iff_not, Bool.not_eq_true', Bool.not_eq_false', Int.not_lt, Int.not_le] at hg)
          | with_reducible refine And.intro (by first | omega | (simp only [List.length_take, List.length_drop, List.length_append, List.length_cons, List.length_nil, List.length_map, List.length_replicate, List.length_set, List.length_range]; omega)) ?_
          | (exfalso; omega)
        all_goals (exfalso; simp [shortN] at hsh; omega)
      · skip
        repeat' first
          | with_reducible (first | refine AWP.seqA ?_ | refine AWP.seqB ?_ | refine AWP.block ?_ | refine AWP.skipN ?_ | refine AWP.skip ?_ | refine AWP.exit ?_ | refine AWP.ret ?_ | refine LoopN.succ ?_ | refine thenS_n ?_ | refine thenS_x ?_ | refine thenS_r ?_ | refine blockS_n ?_ | refine blockS_r ?_ | refine blockS_x ?_ | refine blockS_y (by decide) ?_)
          | ((with_reducible refine hK _ ?_); clear hK K) | ((with_reducible refine hKt ?_); clear hKt hKf Kt Kf) | ((with_reducible refine hKf ?_); clear hKt hKf Kt Kf) | ((with_reducible refine condP_split (fun hg => hKt ?_) (fun hg => hKf ?_)) <;> clear hKt hKf Kt Kf <;> (try simp only [List.length_take, List.length_drop, List.length_append, List.length_cons, List.length_nil, List.length_map, decide_eq_true_eq, decide_eq_false_iff_not, Bool.not_eq_true', Bool.not_eq_false', Int.not_lt, Int.not_le] at hg) <;> try (exfalso; omega))
          | ((first | with_reducible (first | refine retSB_ret [] ?_ | refine retSB_end [] ?_ | refine retSF_ret [] ?_ | refine retSF_end [] ?_)); simp -implicitDefEqProofs only [noE, noEL, noELL, frozT, frozTL, boxesOf, stALL, okB, okBL, okBLL, rnB, rnBL, rnBLL, posN, nodupN, bxIds, u8, em, ez, a0, a1, a2, lw, fdv, Int.cast_ofNat_Int, hn, mvcgen_simp, reduceIte, reduceCtorEq, Nat.reduceLT, Nat.reduceGT, Nat.reduceLeDiff, Nat.reduceAdd, Nat.reduceSub, Nat.reduceMul, Nat.reduceBEq, Int.reduceToNat, Int.reduceLT, Int.reduceLE, Int.reduceAdd, Int.reduceSub, Int.reduceMul, Int.reduceNeg, Int.reducePow, Int.reduceEq, Int.reduceNe, Nat.reduceEqDiff]; try simp (disch := omega) only [Int.tdiv_eq_ediv_of_nonneg, Int.tmod_eq_emod_of_nonneg, getD_take', bitop_or_256, Go.IntWalk.i64_in, Go.IntWalk.u8_in, Go.IntWalk.u64_in, Go.IntWalk.u32_in])
          | ((first | with_reducible (first | refine AWP.seqRB [0,1,2,6,7,8,9,10,11,12,13,15,31,44,73] fun K hK => ?_ | refine AWP.lastRB [0,1,2,6,7,8,9,10,11,12,13,15,31,44,73] fun K hK => ?_ | refine AWP.seqC fun Kt Kf hKt hKf => ?_ | refine AWP.condK fun Kt Kf hKt hKf => ?_ | refine retS_ret ?_ | refine retS_end ?_) | refine callE_P (c21') ?_ | refine callP_intro2 (c21') ?_ | refine callE_X (c21') ?_); simp -implicitDefEqProofs only [callSt, scalarAV, scalarL, posOf, posL, ansOk, ansOkL, ren3, ren3L, nm, List.nodup_cons, List.not_mem_nil, List.nodup_nil, List.mem_cons, u8, em, ez, a0, a1, a2, lw, fdv, Int.cast_ofNat_Int, hn, mvcgen_simp, reduceIte, reduceCtorEq, Nat.reduceLT, Nat.reduceGT, Nat.reduceLeDiff, Nat.reduceAdd, Nat.reduceSub, Nat.reduceMul, Nat.reduceBEq, Int.reduceToNat, Int.reduceLT, Int.reduceLE, Int.reduceAdd, Int.reduceSub, Int.reduceMul, Int.reduceNeg, Int.reducePow, Int.reduceEq, Int.reduceNe, Nat.reduceEqDiff]; try simp (disch := omega) only [Int.tdiv_eq_ediv_of_nonneg, Int.tmod_eq_emod_of_nonneg, getD_take', bitop_or_256, Go.IntWalk.i64_in, Go.IntWalk.u8_in, Go.IntWalk.u64_in, Go.IntWalk.u32_in])
          | ((with_reducible refine guardP_split (fun hg => ?_) (fun hg => ?_)) <;> simp -implicitDefEqProofs only [hg, u8, em, ez, a0, a1, a2, lw, fdv, Int.cast_ofNat_Int, hn, mvcgen_simp, reduceIte, reduceCtorEq, Nat.reduceLT, Nat.reduceGT, Nat.reduceLeDiff, Nat.reduceAdd, Nat.reduceSub, Nat.reduceMul, Nat.reduceBEq, Int.reduceToNat, Int.reduceLT, Int.reduceLE, Int.reduceAdd, Int.reduceSub, Int.reduceMul, Int.reduceNeg, Int.reducePow, Int.reduceEq, Int.reduceNe, Nat.reduceEqDiff] <;> (try simp (disch := omega) only [Int.tdiv_eq_ediv_of_nonneg, Int.tmod_eq_emod_of_nonneg, getD_take', bitop_or_256, Go.IntWalk.i64_in, Go.IntWalk.u8_in, Go.IntWalk.u64_in, Go.IntWalk.u32_in]) <;> try simp only [List.length_take, List.length_drop, List.length_append, List.length_cons, List.length_nil, List.length_map, decide_eq_true_eq, decide_eq_false_iff_not, Bool.not_eq_true', Bool.not_eq_false', Int.not_lt, Int.not_le] at hg)
          | with_reducible refine And.intro (by first | omega | (simp only [List.length_take, List.length_drop, List.length_append, List.length_cons, List.length_nil, List.length_map, List.length_replicate, List.length_set, List.length_range]; omega)) ?_
          | (exfalso; omega)
        all_goals (exfalso; simp [shortN] at hsh; omega)
      · skip
        repeat' first
          | with_reducible (first | refine AWP.seqA ?_ | refine AWP.seqB ?_ | refine AWP.block ?_ | refine AWP.skipN ?_ | refine AWP.skip ?_ | refine AWP.exit ?_ | refine AWP.ret ?_ | refine LoopN.succ ?_ | refine thenS_n ?_ | refine thenS_x ?_ | refine thenS_r ?_ | refine blockS_n ?_ | refine blockS_r ?_ | refine blockS_x ?_ | refine blockS_y (by decide) ?_)
          | ((with_reducible refine hK _ ?_); clear hK K) | ((with_reducible refine hKt ?_); clear hKt hKf Kt Kf) | ((with_reducible refine hKf ?_); clear hKt hKf Kt Kf) | ((with_reducible refine condP_split (fun hg => hKt ?_) (fun hg => hKf ?_)) <;> clear hKt hKf Kt Kf <;> (try simp only [List.length_take, List.length_drop, List.length_append, List.length_cons, List.length_nil, List.length_map, decide_eq_true_eq, decide_eq_false_iff_not, Bool.not_eq_true', Bool.not_eq_false', Int.not_lt, Int.not_le] at hg) <;> try (exfalso; omega))
          | ((first | with_reducible (first | refine retSB_ret [] ?_ | refine retSB_end [] ?_ | refine retSF_ret [] ?_ | refine retSF_end [] ?_)); simp -implicitDefEqProofs only [noE, noEL, noELL, frozT, frozTL, boxesOf, stALL, okB, okBL, okBLL, rnB, rnBL, rnBLL, posN, nodupN, bxIds, u8, em, ez, a0, a1, a2, lw, fdv, Int.cast_ofNat_Int, hn, mvcgen_simp, reduceIte, reduceCtorEq, Nat.reduceLT, Nat.reduceGT, Nat.reduceLeDiff, Nat.reduceAdd, Nat.reduceSub, Nat.reduceMul, Nat.reduceBEq, Int.reduceToNat, Int.reduceLT, Int.reduceLE, Int.reduceAdd, Int.reduceSub, Int.reduceMul, Int.reduceNeg, Int.reducePow, Int.reduceEq, Int.reduceNe, Nat.reduceEqDiff]; try simp (disch := omega) only [Int.tdiv_eq_ediv_of_nonneg, Int.tmod_eq_emod_of_nonneg, getD_take', bitop_or_256, Go.IntWalk.i64_in, Go.IntWalk.u8_in, Go.IntWalk.u64_in, Go.IntWalk.u32_in])
          | ((first | with_reducible (first | refine AWP.seqRB [0,1,2,6,7,8,9,10,11,12,13,15,31,44,73] fun K hK => ?_ | refine AWP.lastRB [0,1,2,6,7,8,9,10,11,12,13,15,31,44,73] fun K hK => ?_ | refine AWP.seqC fun Kt Kf hKt hKf => ?_ | refine AWP.condK fun Kt Kf hKt hKf => ?_ | refine retS_ret ?_ | refine retS_end ?_) | refine callE_P (c21') ?_ | refine callP_intro2 (c21') ?_ | refine callE_X (c21') ?_); simp -implicitDefEqProofs only [callSt, scalarAV, scalarL, posOf, posL, ansOk, ansOkL, ren3, ren3L, nm, List.nodup_cons, List.not_mem_nil, List.nodup_nil, List.mem_cons, u8, em, ez, a0, a1, a2, lw, fdv, Int.cast_ofNat_Int, hn, mvcgen_simp, reduceIte, reduceCtorEq, Nat.reduceLT, Nat.reduceGT, Nat.reduceLeDiff, Nat.reduceAdd, Nat.reduceSub, Nat.reduceMul, Nat.reduceBEq, Int.reduceToNat, Int.reduceLT, Int.reduceLE, Int.reduceAdd, Int.reduceSub, Int.reduceMul, Int.reduceNeg, Int.reducePow, Int.reduceEq, Int.reduceNe, Nat.reduceEqDiff]; try simp (disch := omega) only [Int.tdiv_eq_ediv_of_nonneg, Int.tmod_eq_emod_of_nonneg, getD_take', bitop_or_256, Go.IntWalk.i64_in, Go.IntWalk.u8_in, Go.IntWalk.u64_in, Go.IntWalk.u32_in])
          | ((with_reducible refine guardP_split (fun hg => ?_) (fun hg => ?_)) <;> simp -implicitDefEqProofs only [hg, u8, em, ez, a0, a1, a2, lw, fdv, Int.cast_ofNat_Int, hn, mvcgen_simp, reduceIte, reduceCtorEq, Nat.reduceLT, Nat.reduceGT, Nat.reduceLeDiff, Nat.reduceAdd, Nat.reduceSub, Nat.reduceMul, Nat.reduceBEq, Int.reduceToNat, Int.reduceLT, Int.reduceLE, Int.reduceAdd, Int.reduceSub, Int.reduceMul, Int.reduceNeg, Int.reducePow, Int.reduceEq, Int.reduceNe, Nat.reduceEqDiff] <;> (try simp (disch := omega) only [Int.tdiv_eq_ediv_of_nonneg, Int.tmod_eq_emod_of_nonneg, getD_take', bitop_or_256, Go.IntWalk.i64_in, Go.IntWalk.u8_in, Go.IntWalk.u64_in, Go.IntWalk.u32_in]) <;> try simp only [List.length_take, List.length_drop, List.length_append, List.length_cons, List.length_nil, List.length_map, decide_eq_true_eq, decide_eq_false_iff_not, Bool.not_eq_true', Bool.not_eq_false', Int.not_lt, Int.not_le] at hg)
          | with_reducible refine And.intro (by first | omega | (simp only [List.length_take, List.length_drop, List.length_append, List.length_cons, List.length_nil, List.length_map, List.length_replicate, List.length_set, List.length_range]; omega)) ?_
          | (exfalso; omega)
        all_goals (exfalso; simp [shortN] at hsh; omega)
    · rw [if_neg hsh] at c21
      have c21' : CallsP Tryd.prog 21 [.sl none false 1 (.int .u8 c.toNat :: (dn n (2 ^ z)).map u8)] (.tup [(CI.mk (m + 1) (n % 256 ^ 2 ^ z) true [] true []).av, .int .i64 0]) := c21
      clear c21
      simp only [av_mk, List.map_nil] at c21'
      rcases (show z = 0 ∨ z = 1 ∨ z = 2 ∨ z = 3 by omega) with rfl | rfl | rfl | rfl
      · skip
        repeat' first
          | with_reducible (first | refine AWP.seqA ?_ | refine AWP.seqB ?_ | refine AWP.block ?_ | refine AWP.skipN ?_ | refine AWP.skip ?_ | refine AWP.exit ?_ | refine AWP.ret ?_ | refine LoopN.succ ?_ | refine thenS_n ?_ | refine thenS_x ?_ | refine thenS_r ?_ | refine blockS_n ?_ | refine blockS_r ?_ | refine blockS_x ?_ | refine blockS_y (by decide) ?_)
          | ((with_reducible refine hK _ ?_); clear hK K) | ((with_reducible refine hKt ?_); clear hKt hKf Kt Kf) | ((with_reducible refine hKf ?_); clear hKt hKf Kt Kf) | ((with_reducible refine condP_split (fun hg => hKt ?_) (fun hg => hKf ?_)) <;> clear hKt hKf Kt Kf <;> (try simp only [List.length_take, List.length_drop, List.length_append, List.length_cons, List.length_nil, List.length_map, decide_eq_true_eq, decide_eq_false_iff_not, Bool.not_eq_true', Bool.not_eq_false', Int.not_lt, Int.not_le] at hg) <;> try (exfalso; omega))
          | ((first | with_reducible (first | refine retSB_ret [] ?_ | refine retSB_end [] ?_ | refine retSF_ret [] ?_ | refine retSF_end [] ?_)); simp -implicitDefEqProofs only [noE, noEL, noELL, frozT, frozTL, boxesOf, stALL, okB, okBL, okBLL, rnB, rnBL, rnBLL, posN, nodupN, bxIds, u8, em, ez, a0, a1, a2, lw, fdv, Int.cast_ofNat_Int, hn, mvcgen_simp, reduceIte, reduceCtorEq, Nat.reduceLT, Nat.reduceGT, Nat.reduceLeDiff, Nat.reduceAdd, Nat.reduceSub, Nat.reduceMul, Nat.reduceBEq, Int.reduceToNat, Int.reduceLT, Int.reduceLE, Int.reduceAdd, Int.reduceSub, Int.reduceMul, Int.reduceNeg, Int.reducePow, Int.reduceEq, Int.reduceNe, Nat.reduceEqDiff]; try simp (disch := omega) only [Int.tdiv_eq_ediv_of_nonneg, Int.tmod_eq_emod_of_nonneg, getD_take', bitop_or_256, Go.IntWalk.i64_in, Go.IntWalk.u8_in, Go.IntWalk.u64_in, Go.IntWalk.u32_in])
          | ((first | with_reducible (first | refine AWP.seqRB [0,1,2,6,7,8,9,10,11,12,13,15,31,44,73] fun K hK => ?_ | refine AWP.lastRB [0,1,2,6,7,8,9,10,11,12,13,15,31,44,73] fun K hK => ?_ | refine AWP.seqC fun Kt Kf hKt hKf => ?_ | refine AWP.condK fun Kt Kf hKt hKf => ?_ | refine retS_ret ?_ | refine retS_end ?_) | refine callE_P (c21') ?_ | refine callP_intro2 (c21') ?_ | refine callE_X (c21') ?_); simp -implicitDefEqProofs only [callSt, scalarAV, scalarL, posOf, posL, ansOk, ansOkL, ren3, ren3L, nm, List.nodup_cons, List.not_mem_nil, List.nodup_nil, List.mem_cons, u8, em, ez, a0, a1, a2, lw, fdv, Int.cast_ofNat_Int, hn, mvcgen_simp, reduceIte, reduceCtorEq, Nat.reduceLT, Nat.reduceGT, Nat.reduceLeDiff, Nat.reduceAdd, Nat.reduceSub, Nat.reduceMul, Nat.reduceBEq, Int.reduceToNat, Int.reduceLT, Int.reduceLE, Int.reduceAdd, Int.reduceSub, Int.reduceMul, Int.reduceNeg, Int.reducePow, Int.reduceEq, Int.reduceNe, Nat.reduceEqDiff]; try simp (disch := omega) only [Int.tdiv_eq_ediv_of_nonneg, Int.tmod_eq_emod_of_nonneg, getD_take', bitop_or_256, Go.IntWalk.i64_in, Go.IntWalk.u8_in, Go.IntWalk.u64_in, Go.IntWalk.u32_in])
          | ((with_reducible refine guardP_split (fun hg => ?_) (fun hg => ?_)) <;> simp -implicitDefEqProofs only [hg, u8, em, ez, a0, a1, a2, lw, fdv, Int.cast_ofNat_Int, hn, mvcgen_simp, reduceIte, reduceCtorEq, Nat.reduceLT, Nat.reduceGT, Nat.reduceLeDiff, Nat.reduceAdd, Nat.reduceSub, Nat.reduceMul, Nat.reduceBEq, Int.reduceToNat, Int.reduceLT, Int.reduceLE, Int.reduceAdd, Int.reduceSub, Int.reduceMul, Int.reduceNeg, Int.reducePow, Int.reduceEq, Int.reduceNe, Nat.reduceEqDiff] <;> (try simp (disch := omega) only [Int.tdiv_eq_ediv_of_nonneg, Int.tmod_eq_emod_of_nonneg, getD_take', bitop_or_256, Go.IntWalk.i64_in, Go.IntWalk.u8_in, Go.IntWalk.u64_in, Go.IntWalk.u32_in]) <;> try simp only [List.length_take, List.length_drop, List.length_append, List.length_cons, List.length_nil, List.length_map, decide_eq_true_eq, decide_eq_false_iff_not, Bool.not_eq_true', Bool.not_eq_false', Int.not_lt, Int.not_le] at hg)
          | with_reducible refine And.intro (by first | omega | (simp only [List.length_take, List.length_drop, List.length_append, List.length_cons, List.length_nil, List.length_map, List.length_replicate, List.length_set, List.length_range]; omega)) ?_
          | (exfalso; omega)
        all_goals (simp [shortN] at hsh)
        all_goals first | omega | (rw [decide_eq_true (by omega)])
      · skip
        repeat' first
          | with_reducible (first | refine AWP.seqA ?_ | refine AWP.seqB ?_ | refine AWP.block ?_ | refine AWP.skipN ?_ | refine AWP.skip ?_ | refine AWP.exit ?_ | refine AWP.ret ?_ | refine LoopN.succ ?_ | refine thenS_n ?_ | refine thenS_x ?_ | refine thenS_r ?_ | refine blockS_n ?_ | refine blockS_r ?_ | refine blockS_x ?_ | refine blockS_y (by decide) ?_)
          | ((with_reducible refine hK _ ?_); clear hK K) | ((with_reducible refine hKt ?_); clear hKt hKf Kt Kf) | ((with_reducible refine hKf ?_); clear hKt hKf Kt Kf) | ((with_reducible refine condP_split (fun hg => hKt ?_) (fun hg => hKf ?_)) <;> clear hKt hKf Kt Kf <;> (try simp only [List.length_take, List.length_drop, List.length_append, List.length_cons, List.length_nil, List.length_map, decide_eq_true_eq, decide_eq_false_iff_not, Bool.not_eq_true', Bool.not_eq_false', Int.not_lt, Int.not_le] at hg) <;> try (exfalso; omega))
          | ((first | with_reducible (first | refine retSB_ret [] ?_ | refine retSB_end [] ?_ | refine retSF_ret [] ?_ | refine retSF_end [] ?_)); simp -implicitDefEqProofs only [noE, noEL, noELL, frozT, frozTL, boxesOf, stALL, okB, okBL, okBLL, rnB, rnBL, rnBLL, posN, nodupN, bxIds, u8, em, ez, a0, a1, a2, lw, fdv, Int.cast_ofNat_Int, hn, mvcgen_simp, reduceIte, reduceCtorEq, Nat.reduceLT, Nat.reduceGT, Nat.reduceLeDiff, Nat.reduceAdd, Nat.reduceSub, Nat.reduceMul, Nat.reduceBEq, Int.reduceToNat, Int.reduceLT, Int.reduceLE, Int.reduceAdd, Int.reduceSub, Int.reduceMul, Int.reduceNeg, Int.reducePow, Int.reduceEq, Int.reduceNe, Nat.reduceEqDiff]; try simp (disch := omega) only [Int.tdiv_eq_ediv_of_nonneg, Int.tmod_eq_emod_of_nonneg, getD_take', bitop_or_256, Go.IntWalk.i64_in, Go.IntWalk.u8_in, Go.IntWalk.u64_in, Go.IntWalk.u32_in])
          | ((first | with_reducible (first | refine AWP.seqRB [0,1,2,6,7,8,9,10,11,12,13,15,31,44,73] fun K hK => ?_ | refine AWP.lastRB [0,1,2,6,7,8,9,10,11,12,13,15,31,44,73] fun K hK => ?_ | refine AWP.seqC fun Kt Kf hKt hKf => ?_ | refine AWP.condK fun Kt Kf hKt hKf => ?_ | refine retS_ret ?_ | refine retS_end ?_) | refine callE_P (c21') ?_ | refine callP_intro2 (c21') ?_ | refine callE_X (c21') ?_); simp -implicitDefEqProofs only [callSt, scalarAV, scalarL, posOf, posL, ansOk, ansOkL, ren3, ren3L, nm, List.nodup_cons, List.not_mem_nil, List.nodup_nil, List.mem_cons, u8, em, ez, a0, a1, a2, lw, fdv, Int.cast_ofNat_Int, hn, mvcgen_simp, reduceIte, reduceCtorEq, Nat.reduceLT, Nat.reduceGT, Nat.reduceLeDiff, Nat.reduceAdd, Nat.reduceSub, Nat.reduceMul, Nat.reduceBEq, Int.reduceToNat, Int.reduceLT, Int.reduceLE, Int.reduceAdd, Int.reduceSub, Int.reduceMul, Int.reduceNeg, Int.reducePow, Int.reduceEq, Int.reduceNe, Nat.reduceEqDiff]; try simp (disch := omega) only [Int.tdiv_eq_ediv_of_nonneg, Int.tmod_eq_emod_of_nonneg, getD_take', bitop_or_256, Go.IntWalk.i64_in, Go.IntWalk.u8_in, Go.IntWalk.u64_in, Go.IntWalk.u32_in])
          | ((with_reducible refine guardP_split (fun hg => ?_) (fun hg => ?_)) <;> simp -implicitDefEqProofs only [hg, u8, em, ez, a0, a1, a2, lw, fdv, Int.cast_ofNat_Int, hn, mvcgen_simp, reduceIte, reduceCtorEq, Nat.reduceLT, Nat.reduceGT, Nat.reduceLeDiff, Nat.reduceAdd, Nat.reduceSub, Nat.reduceMul, Nat.reduceBEq, Int.reduceToNat, Int.reduceLT, Int.reduceLE, Int.reduceAdd, Int.reduceSub, Int.reduceMul, Int.reduceNeg, Int.reducePow, Int.reduceEq, Int.reduceNe, Nat.reduceEqDiff] <;> (try simp (disch := omega) only [Int.tdiv_eq_ediv_of_nonneg, Int.tmod_eq_emod_of_nonneg, getD_take', bitop_or_256, Go.IntWalk.i64_in, Go.IntWalk.u8_in, Go.IntWalk.u64_in, Go.IntWalk.u32_in]) <;> try simp only [List.length_take, List.length_drop, List.length_append, List.length_cons, List.length_nil, List.length_map, decide_eq_true_eq, decide_eq_false_iff_not, Bool.not_eq_true', Bool.not_eq_false', Int.not_lt, Int.not_le] at hg)
          | with_reducible refine And.intro (by first | omega | (simp only [List.length_take, List.length_drop, List.length_append, List.length_cons, List.length_nil, List.length_map, List.length_replicate, List.length_set, List.length_range]; omega)) ?_
          | (exfalso; omega)
        all_goals (simp [shortN] at hsh)
        all_goals first | omega | (rw [decide_eq_true (by omega)])
      · skip
        repeat' first
          | with_reducible (first | refine AWP.seqA ?_ | refine AWP.seqB ?_ | refine AWP.block ?_ | refine AWP.skipN ?_ | refine AWP.skip ?_ | refine AWP.exit ?_ | refine AWP.ret ?_ | refine LoopN.succ ?_ | refine thenS_n ?_ | refine thenS_x ?_ | refine thenS_r ?_ | refine blockS_n ?_ | refine blockS_r ?_ | refine blockS_x ?_ | refine blockS_y (by decide) ?_)
          | ((with_reducible refine hK _ ?_); clear hK K) | ((with_reducible refine hKt ?_); clear hKt hKf Kt Kf) | ((with_reducible refine hKf ?_); clear hKt hKf Kt Kf) | ((with_reducible refine condP_split (fun hg => hKt ?_) (fun hg => hKf ?_)) <;> clear hKt hKf Kt Kf <;> (try simp only [List.length_take, List.length_drop, List.length_append, List.length_cons, List.length_nil, List.length_map, decide_eq_true_eq, decide_eq_false_iff_not, Bool.not_eq_true', Bool.not_eq_false', Int.not_lt, Int.not_le] at hg) <;> try (exfalso; omega))
          | ((first | with_reducible (first | refine retSB_ret [] ?_ | refine retSB_end [] ?_ | refine retSF_ret [] ?_ | refine retSF_end [] ?_)); simp -implicitDefEqProofs only [noE, noEL, noELL, frozT, frozTL, boxesOf, stALL, okB, okBL, okBLL, rnB, rnBL, rnBLL, posN, nodupN, bxIds, u8, em, ez, a0, a1, a2, lw, fdv, Int.cast_ofNat_Int, hn, mvcgen_simp, reduceIte, reduceCtorEq, Nat.reduceLT, Nat.reduceGT, Nat.reduceLeDiff, Nat.reduceAdd, Nat.reduceSub, Nat.reduceMul, Nat.reduceBEq, Int.reduceToNat, Int.reduceLT, Int.reduceLE, Int.reduceAdd, Int.reduceSub, Int.reduceMul, Int.reduceNeg, Int.reducePow, Int.reduceEq, Int.reduceNe, Nat.reduceEqDiff]; try simp (disch := omega) only [Int.tdiv_eq_ediv_of_nonneg, Int.tmod_eq_emod_of_nonneg, getD_take', bitop_or_256, Go.IntWalk.i64_in, Go.IntWalk.u8_in, Go.IntWalk.u64_in, Go.IntWalk.u32_in])
          | ((first | with_reducible (first | refine AWP.seqRB [0,1,2,6,7,8,9,10,11,12,13,15,31,44,73] fun K hK => ?_ | refine AWP.lastRB [0,1,2,6,7,8,9,10,11,12,13,15,31,44,73] fun K hK => ?_ | refine AWP.seqC fun Kt Kf hKt hKf => ?_ | refine AWP.condK fun Kt Kf hKt hKf => ?_ | refine retS_ret ?_ | refine retS_end ?_) | refine callE_P (c21') ?_ | refine callP_intro2 (c21') ?_ | refine callE_X (c21') ?_); simp -implicitDefEqProofs only [callSt, scalarAV, scalarL, posOf, posL, ansOk, ansOkL, ren3, ren3L, nm, List.nodup_cons, List.not_mem_nil, List.nodup_nil, List.mem_cons, u8, em, ez, a0, a1, a2, lw, fdv, Int.cast_ofNat_Int, hn, mvcgen_simp, reduceIte, reduceCtorEq, Nat.reduceLT, Nat.reduceGT, Nat.reduceLeDiff, Nat.reduceAdd, Nat.reduceSub, Nat.reduceMul, Nat.reduceBEq, Int.reduceToNat, Int.reduceLT, Int.reduceLE, Int.reduceAdd, Int.reduceSub, Int.reduceMul, Int.reduceNeg, Int.reducePow, Int.reduceEq, Int.reduceNe, Nat.reduceEqDiff]; try simp (disch := omega) only [Int.tdiv_eq_ediv_of_nonneg, Int.tmod_eq_emod_of_nonneg, getD_take', bitop_or_256, Go.IntWalk.i64_in, Go.IntWalk.u8_in, Go.IntWalk.u64_in, Go.IntWalk.u32_in])
          | ((with_reducible refine guardP_split (fun hg => ?_) (fun hg => ?_)) <;> simp -implicitDefEqProofs only [hg, u8, em, ez, a0, a1, a2, lw, fdv, Int.cast_ofNat_Int, hn, mvcgen_simp, reduceIte, reduceCtorEq, Nat.reduceLT, Nat.reduceGT, Nat.reduceLeDiff, Nat.reduceAdd, Nat.reduceSub, Nat.reduceMul, Nat.reduceBEq, Int.reduceToNat, Int.reduceLT, Int.reduceLE, Int.reduceAdd, Int.reduceSub, Int.reduceMul, Int.reduceNeg, Int.reducePow, Int.reduceEq, Int.reduceNe, Nat.reduceEqDiff] <;> (try simp (disch := omega) only [Int.tdiv_eq_ediv_of_nonneg, Int.tmod_eq_emod_of_nonneg, getD_take', bitop_or_256, Go.IntWalk.i64_in, Go.IntWalk.u8_in, Go.IntWalk.u64_in, Go.IntWalk.u32_in]) <;> try simp only [List.length_take, List.length_drop, List.length_append, List.length_cons, List.length_nil, List.length_map, decide_eq_true_eq, decide_eq_false_iff_not, Bool.not_eq_true', Bool.not_eq_false', Int.not_lt, Int.not_le] at hg)
          | with_reducible refine And.intro (by first | omega | (simp only [List.length_take, List.length_drop, List.length_append, List.length_cons, List.length_nil, List.length_map, List.length_replicate, List.length_set, List.length_range]; omega)) ?_
          | (exfalso; omega)
        all_goals (simp [shortN] at hsh)
        all_goals first | omega | (rw [decide_eq_true (by omega)])
      · skip
        repeat' first
          | with_reducible (first | refine AWP.seqA ?_ | refine AWP.seqB ?_ | refine AWP.block ?_ | refine AWP.skipN ?_ | refine AWP.skip ?_ | refine AWP.exit ?_ | refine AWP.ret ?_ | refine LoopN.succ ?_ | refine thenS_n ?_ | refine thenS_x ?_ | refine thenS_r ?_ | refine blockS_n ?_ | refine blockS_r ?_ | refine blockS_x ?_ | refine blockS_y (by decide) ?_)
          | ((with_reducible refine hK _ ?_); clear hK K) | ((with_reducible refine hKt ?_); clear hKt hKf Kt Kf) | ((with_reducible refine hKf ?_); clear hKt hKf Kt Kf) | ((with_reducible refine condP_split (fun hg => hKt ?_) (fun hg => hKf ?_)) <;> clear hKt hKf Kt Kf <;> (try simp only [List.length_take, List.length_drop, List.length_append, List.length_cons, List.length_nil, List.length_map, decide_eq_true_eq, decide_eq_false_iff_not, Bool.not_eq_true', Bool.not_eq_false', Int.not_lt, Int.not_le] at hg) <;> try (exfalso; omega))
          | ((first | with_reducible (first | refine retSB_ret [] ?_ | refine retSB_end [] ?_ | refine retSF_ret [] ?_ | refine retSF_end [] ?_)); simp -implicitDefEqProofs only [noE, noEL, noELL, frozT, frozTL, boxesOf, stALL, okB, okBL, okBLL, rnB, rnBL, rnBLL, posN, nodupN, bxIds, u8, em, ez, a0, a1, a2, lw, fdv, Int.cast_ofNat_Int, hn, mvcgen_simp, reduceIte, reduceCtorEq, Nat.reduceLT, Nat.reduceGT, Nat.reduceLeDiff, Nat.reduceAdd, Nat.reduceSub, Nat.reduceMul, Nat.reduceBEq, Int.reduceToNat, Int.reduceLT, Int.reduceLE, Int.reduceAdd, Int.reduceSub, Int.reduceMul, Int.reduceNeg, Int.reducePow, Int.reduceEq, Int.reduceNe, Nat.reduceEqDiff]; try simp (disch := omega) only [Int.tdiv_eq_ediv_of_nonneg, Int.tmod_eq_emod_of_nonneg, getD_take', bitop_or_256, Go.IntWalk.i64_in, Go.IntWalk.u8_in, Go.IntWalk.u64_in, Go.IntWalk.u32_in])
          | ((first | with_reducible (first | refine AWP.seqRB [0,1,2,6,7,8,9,10,11,12,13,15,31,44,73] fun K hK => ?_ | refine AWP.lastRB [0,1,2,6,7,8,9,10,11,12,13,15,31,44,73] fun K hK => ?_ | refine AWP.seqC fun Kt Kf hKt hKf => ?_ | refine AWP.condK fun Kt Kf hKt hKf => ?_ | refine retS_ret ?_ | refine retS_end ?_) | refine callE_P (c21') ?_ | refine callP_intro2 (c21') ?_ | refine callE_X (c21') ?_); simp -implicitDefEqProofs only [callSt, scalarAV, scalarL, posOf, posL, ansOk, ansOkL, ren3, ren3L, nm, List.nodup_cons, List.not_mem_nil, List.nodup_nil, List.mem_cons, u8, em, ez, a0, a1, a2, lw, fdv, Int.cast_ofNat_Int, hn, mvcgen_simp, reduceIte, reduceCtorEq, Nat.reduceLT, Nat.reduceGT, Nat.reduceLeDiff, Nat.reduceAdd, Nat.reduceSub, Nat.reduceMul, Nat.reduceBEq, Int.reduceToNat, Int.reduceLT, Int.reduceLE, Int.reduceAdd, Int.reduceSub, Int.reduceMul, Int.reduceNeg, Int.reducePow, Int.reduceEq, Int.reduceNe, Nat.reduceEqDiff]; try simp (disch := omega) only [Int.tdiv_eq_ediv_of_nonneg, Int.tmod_eq_emod_of_nonneg, getD_take', bitop_or_256, Go.IntWalk.i64_in, Go.IntWalk.u8_in, Go.IntWalk.u64_in, Go.IntWalk.u32_in])
          | ((with_reducible refine guardP_split (fun hg => ?_) (fun hg => ?_)) <;> simp -implicitDefEqProofs only [hg, u8, em, ez, a0, a1, a2, lw, fdv, Int.cast_ofNat_Int, hn, mvcgen_simp, reduceIte, reduceCtorEq, Nat.reduceLT, Nat.reduceGT, Nat.reduceLeDiff, Nat.reduceAdd, Nat.reduceSub, Nat.reduceMul, Nat.reduceBEq, Int.reduceToNat, Int.reduceLT, Int.reduceLE, Int.reduceAdd, Int.reduceSub, Int.reduceMul, Int.reduceNeg, Int.reducePow, Int.reduceEq, Int.reduceNe, Nat.reduceEqDiff] <;> (try simp (disch := omega) only [Int.tdiv_eq_ediv_of_nonneg, Int.tmod_eq_emod_of_nonneg, getD_take', bitop_or_256, Go.IntWalk.i64_in, Go.IntWalk.u8_in, Go.IntWalk.u64_in, Go.IntWalk.u32_in]) <;> try simp only [List.length_take, List.length_drop, List.length_append, List.length_cons, List.length_nil, List.length_map, decide_eq_true_eq, decide_eq_false_iff_not, Bool.not_eq_true', Bool.not_eq_false', Int.not_lt, Int.not_le] at hg)
          | with_reducible refine And.intro (by first | omega | (simp only [List.length_take, List.length_drop, List.length_append, List.length_cons, List.length_nil, List.length_map, List.length_replicate, List.length_set, List.length_range]; omega)) ?_
          | (exfalso; omega)
        all_goals (simp [shortN] at hsh)
        all_goals first | omega | (rw [decide_eq_true (by omega)])
  | succ k =>
    have hb8 := byteN n k (by omega)
    repeat' first
      | with_reducible (first | refine AWP.seqA ?_ | refine AWP.seqB ?_ | refine AWP.block ?_ | refine AWP.skipN ?_ | refine AWP.skip ?_ | refine AWP.exit ?_ | refine AWP.ret ?_ | refine LoopN.succ ?_ | refine thenS_n ?_ | refine thenS_x ?_ | refine thenS_r ?_ | refine blockS_n ?_ | refine blockS_r ?_ | refine blockS_x ?_ | refine blockS_y (by decide) ?_)
      | ((with_reducible refine hK _ ?_); clear hK K) | ((with_reducible refine hKt ?_); clear hKt hKf Kt Kf) | ((with_reducible refine hKf ?_); clear hKt hKf Kt Kf) | ((with_reducible refine condP_split (fun hg => hKt ?_) (fun hg => hKf ?_)) <;> clear hKt hKf Kt Kf <;> (try simp only [List.length_take, List.length_drop, List.length_append, List.length_cons, List.length_nil, List.length_map, decide_eq_true_eq, decide_eq_false_iff_not, Bool.not_eq_true', Bool.not_eq_false', Int.not_lt, Int.not_le] at hg) <;> try (exfalso; omega))
      | ((first | with_reducible (first | refine retSB_ret [] ?_ | refine retSB_end [] ?_ | refine retSF_ret [] ?_ | refine retSF_end [] ?_)); simp -implicitDefEqProofs only [noE, noEL, noELL, frozT, frozTL, boxesOf, stALL, okB, okBL, okBLL, rnB, rnBL, rnBLL, posN, nodupN, bxIds, u8, em, ez, hb8, Int.cast_ofNat_Int, hn, mvcgen_simp, reduceIte, reduceCtorEq, Nat.reduceLT, Nat.reduceGT, Nat.reduceLeDiff, Nat.reduceAdd, Nat.reduceSub, Nat.reduceMul, Nat.reduceBEq, Int.reduceToNat, Int.reduceLT, Int.reduceLE, Int.reduceAdd, Int.reduceSub, Int.reduceMul, Int.reduceNeg, Int.reducePow, Int.reduceEq, Int.reduceNe, Nat.reduceEqDiff]; try simp (disch := omega) only [Int.tdiv_eq_ediv_of_nonneg, Int.tmod_eq_emod_of_nonneg, getD_take', bitop_or_256, Go.IntWalk.i64_in, Go.IntWalk.u8_in, Go.IntWalk.u64_in, Go.IntWalk.u32_in])
      | ((first | with_reducible (first | refine AWP.seqRB [0,1,2,6,7,8,9,10,11,12,13,15,31,44,73] fun K hK => ?_ | refine AWP.lastRB [0,1,2,6,7,8,9,10,11,12,13,15,31,44,73] fun K hK => ?_ | refine AWP.seqC fun Kt Kf hKt hKf => ?_ | refine AWP.condK fun Kt Kf hKt hKf => ?_ | refine retS_ret ?_ | refine retS_end ?_)); simp -implicitDefEqProofs only [u8, em, ez, hb8, Int.cast_ofNat_Int, hn, mvcgen_simp, reduceIte, reduceCtorEq, Nat.reduceLT, Nat.reduceGT, Nat.reduceLeDiff, Nat.reduceAdd, Nat.reduceSub, Nat.reduceMul, Nat.reduceBEq, Int.reduceToNat, Int.reduceLT, Int.reduceLE, Int.reduceAdd, Int.reduceSub, Int.reduceMul, Int.reduceNeg, Int.reducePow, Int.reduceEq, Int.reduceNe, Nat.reduceEqDiff]; try simp (disch := omega) only [Int.tdiv_eq_ediv_of_nonneg, Int.tmod_eq_emod_of_nonneg, getD_take', bitop_or_256, Go.IntWalk.i64_in, Go.IntWalk.u8_in, Go.IntWalk.u64_in, Go.IntWalk.u32_in])
      | ((with_reducible refine guardP_split (fun hg => ?_) (fun hg => ?_)) <;> simp -implicitDefEqProofs only [hg, u8, em, ez, hb8, Int.cast_ofNat_Int, hn, mvcgen_simp, reduceIte, reduceCtorEq, Nat.reduceLT, Nat.reduceGT, Nat.reduceLeDiff, Nat.reduceAdd, Nat.reduceSub, Nat.reduceMul, Nat.reduceBEq, Int.reduceToNat, Int.reduceLT, Int.reduceLE, Int.reduceAdd, Int.reduceSub, Int.reduceMul, Int.reduceNeg, Int.reducePow, Int.reduceEq, Int.reduceNe, Nat.reduceEqDiff] <;> (try simp (disch := omega) only [Int.tdiv_eq_ediv_of_nonneg, Int.tmod_eq_emod_of_nonneg, getD_take', bitop_or_256, Go.IntWalk.i64_in, Go.IntWalk.u8_in, Go.IntWalk.u64_in, Go.IntWalk.u32_in]) <;> try simp only [List.length_take, List.length_drop, List.length_append, List.length_cons, List.length_nil, List.length_map, decide_eq_true_eq, decide_eq_false_iff_not, Bool.not_eq_true', Bool.not_eq_false', Int.not_lt, Int.not_le] at hg)
      | with_reducible refine And.intro (by first | omega | (simp only [List.length_take, List.length_drop, List.length_append, List.length_cons, List.length_nil, List.length_map, List.length_replicate, List.length_set, List.length_range]; omega)) ?_
      | (exfalso; omega)
    refine ⟨(k, out ++ [UInt8.ofNat (n / 256 ^ k)]), ?_, ⟨by simp only; omega, by simp only; rw [List.append_assoc]; exact hd⟩, by simp only; omega⟩
    have e1 : (((k + 1 : Nat) : Int) - 1 - 1) = (k : Int) - 1 := by omega
    have e2 : out.map u8 ++ [AV.int .u8 ((UInt8.ofNat (n / 256 ^ k)).toNat : Int)] = (out ++ [UInt8.ofNat (n / 256 ^ k)]).map u8 := by rw [List.map_append]; rfl
    rw [e1, e2]
    simp -implicitDefEqProofs only [slim, dropBoxes_nil, dropBoxes_cons, dropBox_mk, dropAV, dropL, delB_nil, delB_cons, Int.cast_ofNat_Int, hn, mvcgen_simp, reduceIte, reduceCtorEq, Nat.reduceLT, Nat.reduceGT, Nat.reduceLeDiff, Nat.reduceAdd, Nat.reduceSub, Nat.reduceMul, Nat.reduceBEq, Int.reduceToNat, Int.reduceLT, Int.reduceLE, Int.reduceAdd, Int.reduceSub, Int.reduceMul, Int.reduceNeg, Int.reducePow, Int.reduceEq, Int.reduceNe, Nat.reduceEqDiff]
    try rfl
end Go.Proofs.YtijcpdgfbboamaaDoor
