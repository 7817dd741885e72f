/- What der.Time answers to a short time. -/
import Derived.Test.YtedjcbdhafmjiaaVsCTimeS
open Go Go.VS
namespace Go.Proofs.Ytedjcbdhafmjiaa
set_option linter.unusedVariables false
set_option linter.unusedSimpArgs false
set_option maxRecDepth 20000
set_option maxHeartbeats 4000000
def k29_VsCTime : List Nat := [0,1,2,3,4,5,6,7,8,9,10,11,12,14,15,17,36,41,42,43,44,53,56,80,92,116,153]
def a29_21_VsCTime : List Nat := [0,1,0,4,12,31,0,64,63,511]
def o29_21_VsCTime : List Nat := [0,1,2,3,4,5,6,7,8,9]
def a29_32_VsCTime : List Nat := [0,1,0,4,12,31,63,0,128,384,1023,2047,0,4096,12288,32767,65535,131071]
def o29_32_VsCTime : List Nat := [0,1,2,3,4,5,6,7,8,9,10,11,12,13,14,15,16,17]
attribute [go_sem] k29_VsCTime a29_21_VsCTime o29_21_VsCTime a29_32_VsCTime o29_32_VsCTime
theorem f29_23 (tag : UInt8) (nb : Bool) (bs : List UInt8) (h3 : tag.toNat = 23) : CallsP Try.prog 29 [.agg [.int .u8 tag.toNat, .sl none nb 1 (bs.map u8)]] (timeA (timeR tag bs)) := by
  refine CallsP.intro Try.func29 rfl (by show 1 ≤ 192; decide) ?_
  rintro X hX
  have hn : X.n = 192 := hX
  unfold Try.f29
  dsimp only
  rw [entry1]
  repeat' first
    | with_reducible (first | refine AWP.seqA ?_ | refine AWP.seqB ?_ | refine AWP.block ?_ | refine AWP.skipN ?_ | refine AWP.skip ?_ | refine AWP.exit ?_ | refine AWP.ret ?_ | refine LoopN.succ ?_ | refine thenS_n ?_ | refine thenS_x ?_ | refine thenS_r ?_ | refine blockS_n ?_ | refine blockS_r ?_ | refine blockS_x ?_ | refine blockS_y (by decide) ?_)
    | ((with_reducible refine hK _ ?_); clear hK K) | ((with_reducible refine hKt ?_); clear hKt hKf Kt Kf) | ((with_reducible refine hKf ?_); clear hKt hKf Kt Kf) | ((with_reducible refine condP_split (fun hg => hKt ?_) (fun hg => hKf ?_)) <;> clear hKt hKf Kt Kf <;> (try simp only [hgW] at hg) <;> try (exfalso; omega))
    | ((first | (with_reducible refine guardP_split (fun hg => ?_) (fun hg => ?_)) <;> simp -implicitDefEqProofs only [hg, u8, Int.cast_ofNat_Int, hn, go_sem, simprocAttr] <;> (try simp only [hgW] at hg) | ((first | with_reducible (first | refine AWP.seqRB k29_VsCTime fun K hK => ?_ | refine AWP.lastRB k29_VsCTime fun K hK => ?_ | refine AWP.seqD (id := 21) k29_VsCTime a29_21_VsCTime o29_21_VsCTime mixed (by kernel_rfl) (by kernel_rfl) fun K hK => ?_ | refine AWP.lastD (id := 21) k29_VsCTime a29_21_VsCTime o29_21_VsCTime mixed (by kernel_rfl) (by kernel_rfl) fun K hK => ?_ | refine AWP.seqD (id := 32) k29_VsCTime a29_32_VsCTime o29_32_VsCTime mixed (by kernel_rfl) (by kernel_rfl) fun K hK => ?_ | refine AWP.lastD (id := 32) k29_VsCTime a29_32_VsCTime o29_32_VsCTime mixed (by kernel_rfl) (by kernel_rfl) fun K hK => ?_ | refine AWP.seqC fun Kt Kf hKt hKf => ?_ | refine AWP.condK fun Kt Kf hKt hKf => ?_ | refine retS_ret ?_ | refine retS_end ?_)); simp -implicitDefEqProofs only [u8, Int.cast_ofNat_Int, hn, go_sem, simprocAttr])) <;> try simp (disch := omega) only [wrW])
    | with_reducible refine And.intro (by first | omega | (simp only [hgW]; omega)) ?_
    | (exfalso; omega)
  · unfold timeR
    rw [if_pos h3, if_neg (by omega)]
    rfl
  · unfold timeR
    rw [if_pos h3, if_neg (by omega)]
    rfl
  have hlen : bs.length = 13 := by omega
  refine AWP.adopt 5 (0, 999) 0 1 (by rfl) ?_
  refine AWP.loopX [1, 5, 41, 42, 43] [] (fun i : Nat => St.mk (lk [(1, .ptr 1 0), (5, .sl (some ((0, 999), 0)) (decide (i = 0)) 1 (((List.range ((i + 1) / 2)).map (tw bs i)).map (AV.int .u64))), (41, .sl none nb 1 ((bs.take 12).map u8)), (42, .int .i64 12), (43, .int .i64 i)]) (lkB [(1, [.int .u8 tag.toNat, .sl none nb 1 (bs.map u8)])]) (hasS []) (hasS []) (hasN []) (lkR []))
    (fun i => i ≤ 12 ∧ digOk bs i) (fun i => 12 - i) 0 ?_ ⟨by decide, fun s hs => by omega⟩ ?_
  · have e12 : (List.take 12 bs).length = 12 := by rw [List.length_take]; omega
    simp -implicitDefEqProofs only [e12, Int.cast_ofNat_Int, hn, go_sem, simprocAttr]
    try rfl
  rintro i ⟨hi, hd⟩
  by_cases hi12 : i = 12
  · subst hi12
    have hq : ∀ j, j < 6 → 0 ≤ two bs j ∧ two bs j ≤ 99 := fun j hj => by
      have h1 := hd (2 * j) (by omega)
      have h2 := hd (2 * j + 1) (by omega)
      unfold two
      omega
    have hLst : (List.range ((12 + 1) / 2)).map (tw bs 12) = [two bs 0, two bs 1, two bs 2, two bs 3, two bs 4, two bs 5] := rfl
    have hT : timeR tag bs = secs false (if two bs 0 < 50 then 2000 + two bs 0 else 1900 + two bs 0) (two bs 1) (two bs 2) (two bs 3) (two bs 4) (two bs 5) := by
      unfold timeR
      rw [if_pos h3, if_pos ⟨hlen, by omega, hd⟩]
    rw [hT, hLst]
    have b0 := hq 0 (by omega)
    have b1 := hq 1 (by omega)
    have b2 := hq 2 (by omega)
    have b3 := hq 3 (by omega)
    have b4 := hq 4 (by omega)
    have b5 := hq 5 (by omega)
    generalize two bs 0 = q0 at *
    generalize two bs 1 = q1 at *
    generalize two bs 2 = q2 at *
    generalize two bs 3 = q3 at *
    generalize two bs 4 = q4 at *
    generalize two bs 5 = q5 at *
    obtain ⟨m, rfl⟩ := Int.eq_ofNat_of_zero_le b1.1
    have h24 : decide ((tag.toNat : Int) = 24) = false := decide_eq_false (by omega)
    have hff : ∀ x : Bool, (false == x) = !x := fun x => by cases x <;> rfl
    repeat' first
      | with_reducible (first | refine AWP.seqA ?_ | refine AWP.seqB ?_ | refine AWP.block ?_ | refine AWP.skipN ?_ | refine AWP.skip ?_ | refine AWP.exit ?_ | refine AWP.ret ?_ | refine LoopN.succ ?_ | refine thenS_n ?_ | refine thenS_x ?_ | refine thenS_r ?_ | refine blockS_n ?_ | refine blockS_r ?_ | refine blockS_x ?_ | refine blockS_y (by decide) ?_)
      | ((with_reducible refine hK _ ?_); clear hK K) | ((with_reducible refine hKt ?_); clear hKt hKf Kt Kf) | ((with_reducible refine hKf ?_); clear hKt hKf Kt Kf) | ((with_reducible refine condP_split (fun hg => hKt ?_) (fun hg => hKf ?_)) <;> clear hKt hKf Kt Kf <;> (try simp only [hgW] at hg) <;> try (exfalso; omega))
      | ((first | (with_reducible refine guardP_split (fun hg => ?_) (fun hg => ?_)) <;> simp -implicitDefEqProofs only [hg, h24, hff, Int.cast_ofNat_Int, hn, go_sem, simprocAttr] <;> (try simp only [hgW] at hg) | ((first | with_reducible (first | refine AWP.seqRB k29_VsCTime fun K hK => ?_ | refine AWP.lastRB k29_VsCTime fun K hK => ?_ | refine AWP.seqD (id := 21) k29_VsCTime a29_21_VsCTime o29_21_VsCTime mixed (by kernel_rfl) (by kernel_rfl) fun K hK => ?_ | refine AWP.lastD (id := 21) k29_VsCTime a29_21_VsCTime o29_21_VsCTime mixed (by kernel_rfl) (by kernel_rfl) fun K hK => ?_ | refine AWP.seqD (id := 32) k29_VsCTime a29_32_VsCTime o29_32_VsCTime mixed (by kernel_rfl) (by kernel_rfl) fun K hK => ?_ | refine AWP.lastD (id := 32) k29_VsCTime a29_32_VsCTime o29_32_VsCTime mixed (by kernel_rfl) (by kernel_rfl) fun K hK => ?_ | refine AWP.seqC fun Kt Kf hKt hKf => ?_ | refine AWP.condK fun Kt Kf hKt hKf => ?_ | refine retS_ret ?_ | refine retS_end ?_) | refine callE_P (f49_ok (q0 + 1900) m (by omega) (by omega)) ?_ | refine callP_intro2 (f49_ok (q0 + 1900) m (by omega) (by omega)) ?_ | refine callE_X (f49_ok (q0 + 1900) m (by omega) (by omega)) ?_ | refine callE_P (f49_ok (q0 + 1900 + 100) m (by omega) (by omega)) ?_ | refine callP_intro2 (f49_ok (q0 + 1900 + 100) m (by omega) (by omega)) ?_ | refine callE_X (f49_ok (q0 + 1900 + 100) m (by omega) (by omega)) ?_); simp -implicitDefEqProofs only [h24, hff, Int.cast_ofNat_Int, hn, go_sem, simprocAttr])) <;> try simp (disch := omega) only [wrW])
      | with_reducible refine And.intro (by first | omega | (simp only [hgW]; omega)) ?_
      | (exfalso; omega)
    all_goals first
      | (have hY : (if q0 < 50 then 2000 + q0 else 1900 + q0) = q0 + 1900 + 100 := by rw [if_pos (by omega)]; omega
         rw [hY]
         first
           | exact secs_none _ _ _ _ _ _ _ (by simp only [Bool.false_eq_true, false_and, true_and, false_or]; omega)
           | exact secs_some _ _ _ _ _ _ _ (by omega) (by omega) (by simp only [Bool.false_eq_true, false_and, true_and, false_or]; omega))
      | (have hY : (if q0 < 50 then 2000 + q0 else 1900 + q0) = q0 + 1900 := by rw [if_neg (by omega)]; omega
         rw [hY]
         first
           | exact secs_none _ _ _ _ _ _ _ (by simp only [Bool.false_eq_true, false_and, true_and, false_or]; omega)
           | exact secs_some _ _ _ _ _ _ _ (by omega) (by omega) (by simp only [Bool.false_eq_true, false_and, true_and, false_or]; omega))
      | trace_state
  repeat' first
    | with_reducible (first | refine AWP.seqA ?_ | refine AWP.seqB ?_ | refine AWP.block ?_ | refine AWP.skipN ?_ | refine AWP.skip ?_ | refine AWP.exit ?_ | refine AWP.ret ?_ | refine LoopN.succ ?_ | refine thenS_n ?_ | refine thenS_x ?_ | refine thenS_r ?_ | refine blockS_n ?_ | refine blockS_r ?_ | refine blockS_x ?_ | refine blockS_y (by decide) ?_)
    | ((with_reducible refine hK _ ?_); clear hK K) | ((with_reducible refine hKt ?_); clear hKt hKf Kt Kf) | ((with_reducible refine hKf ?_); clear hKt hKf Kt Kf) | ((with_reducible refine condP_split (fun hg => hKt ?_) (fun hg => hKf ?_)) <;> clear hKt hKf Kt Kf <;> (try simp only [hgW] at hg) <;> try (exfalso; omega))
    | ((first | (with_reducible refine guardP_split (fun hg => ?_) (fun hg => ?_)) <;> simp -implicitDefEqProofs only [hg, u8, List.length_range, Int.cast_ofNat_Int, hn, go_sem, simprocAttr] <;> (try simp only [hgW] at hg) | ((first | with_reducible (first | refine AWP.seqRB k29_VsCTime fun K hK => ?_ | refine AWP.lastRB k29_VsCTime fun K hK => ?_ | refine AWP.seqD (id := 21) k29_VsCTime a29_21_VsCTime o29_21_VsCTime mixed (by kernel_rfl) (by kernel_rfl) fun K hK => ?_ | refine AWP.lastD (id := 21) k29_VsCTime a29_21_VsCTime o29_21_VsCTime mixed (by kernel_rfl) (by kernel_rfl) fun K hK => ?_ | refine AWP.seqD (id := 32) k29_VsCTime a29_32_VsCTime o29_32_VsCTime mixed (by kernel_rfl) (by kernel_rfl) fun K hK => ?_ | refine AWP.lastD (id := 32) k29_VsCTime a29_32_VsCTime o29_32_VsCTime mixed (by kernel_rfl) (by kernel_rfl) fun K hK => ?_ | refine AWP.seqC fun Kt Kf hKt hKf => ?_ | refine AWP.condK fun Kt Kf hKt hKf => ?_ | refine retS_ret ?_ | refine retS_end ?_)); simp -implicitDefEqProofs only [u8, List.length_range, Int.cast_ofNat_Int, hn, go_sem, simprocAttr])) <;> try simp (disch := omega) only [wrW])
    | with_reducible refine And.intro (by first | omega | (simp only [hgW]; omega)) ?_
    | (exfalso; omega)
  · unfold timeR
    rw [if_pos h3, if_neg (fun h => time_bad (i := i) (by omega) (.inl hg) h.2.2)]
    rfl
  · unfold timeR
    rw [if_pos h3, if_neg (fun h => time_bad (i := i) (by omega) (.inr hg) h.2.2)]
    rfl
  · refine ⟨i + 1, ?_, ⟨by omega, dig_succ hd (by omega) (by omega)⟩, by omega⟩
    have e1 : ((i : Int) / 2).toNat = i / 2 := by omega
    obtain ⟨L, hL⟩ : ∃ L, (List.range ((i + 1) / 2)).map (tw bs i) = L := ⟨_, rfl⟩
    have hLl : L.length = i / 2 := by rw [← hL]; simp; omega
    have eg : (L ++ [0]).getD (i / 2) default = 0 := by rw [← hLl]; simp [List.getD_eq_getElem?_getD]
    have es : ∀ v, (L ++ [(0 : Int)]).set (i / 2) v = L ++ [v] := fun v => by rw [← hLl]; simp
    have ev : IntKind.u64.wrap (IntKind.u64.wrap (10 * 0) + (((bs.getD i default).toNat : Int) - 48)) = dig bs i := by
      rw [Go.IntWalk.u64_in (10 * 0) (by omega), Go.IntWalk.u64_in _ (by omega)]
      unfold dig
      omega
    rw [hL, e1, eg, es, ev, ← hL, tw_step (by omega)]
    simp -implicitDefEqProofs only [Int.cast_ofNat_Int, hn, go_sem, simprocAttr]
    try rfl
  · refine ⟨i + 1, ?_, ⟨by omega, dig_succ hd (by omega) (by omega)⟩, by omega⟩
    have e1 : ((i : Int) / 2).toNat = i / 2 := by omega
    have e2 : 2 * (i / 2) + 1 = i := by omega
    have h1 := hd (2 * (i / 2)) (by omega)
    have ev : IntKind.u64.wrap (IntKind.u64.wrap (10 * dig bs (2 * (i / 2))) + (((bs.getD i default).toNat : Int) - 48)) = two bs (i / 2) := by
      rw [Go.IntWalk.u64_in (10 * dig bs (2 * (i / 2))) (by omega), Go.IntWalk.u64_in _ (by omega)]
      unfold two
      rw [e2]
      rfl
    have et : tw bs i (i / 2) = dig bs (2 * (i / 2)) := by unfold tw; rw [if_neg (by omega)]
    have e5 : decide (i = 0) = false := decide_eq_false (by omega)
    rw [e1, getD_rng _ (by omega), et, ev, tw_set (by omega), e5]
    simp -implicitDefEqProofs only [Int.cast_ofNat_Int, hn, go_sem, simprocAttr]
    try rfl
end Go.Proofs.Ytedjcbdhafmjiaa
