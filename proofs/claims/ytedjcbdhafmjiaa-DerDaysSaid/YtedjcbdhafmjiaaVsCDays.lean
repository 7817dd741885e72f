/- What latchkeyref10.leap, latchkeyref10.month and der's days answer. -/
import Derived.Test.YtedjcbdhafmjiaaVsTy

open Go Go.VS
namespace Go.Proofs.Ytedjcbdhafmjiaa
set_option linter.unusedVariables false
set_option linter.unusedSimpArgs false
set_option maxRecDepth 20000
set_option maxHeartbeats 4000000
def leapP (y : Int) : Prop := (y % 4 = 0 ∧ ¬ y % 100 = 0) ∨ y % 400 = 0
instance (y : Int) : Decidable (leapP y) := by unfold leapP; infer_instance
def mdL (y : Int) : List Int := [31, if leapP y then 29 else 28, 31, 30, 31, 30, 31, 31, 30, 31, 30, 31]
theorem mdL_len (y : Int) : (mdL y).length = 12 := rfl
theorem mdL_bd (y : Int) (i : Nat) : 0 ≤ (mdL y).getD i default ∧ (mdL y).getD i default ≤ 31 := by
  unfold mdL
  match i with
  | 0 => simp
  | 1 => simp only [List.getD_cons_succ, List.getD_cons_zero]; split <;> omega
  | 2 => simp
  | 3 => simp
  | 4 => simp
  | 5 => simp
  | 6 => simp
  | 7 => simp
  | 8 => simp
  | 9 => simp
  | 10 => simp
  | 11 => simp
  | n + 12 => simp
theorem thL_ints (F : Stamp → Fate) (k : IntKind) : ∀ (L : List Int), thL F (L.map (AV.int k)) = L.map (AV.int k)
  | [] => rfl
  | a :: L => by simp only [List.map_cons, thL, thAV, thL_ints F k L]
theorem mdL_no (y : Int) (i : Nat) (h : ¬ leapP y ∨ i ≠ 1) : (mdL y).getD i default = [(31 : Int), 28, 31, 30, 31, 30, 31, 31, 30, 31, 30, 31].getD i default := by
  unfold mdL
  by_cases hl : leapP y
  · have hi : i ≠ 1 := h.resolve_left (fun h => h hl)
    match i, hi with
    | 0, _ => rfl
    | i + 2, _ => rfl
  · rw [if_neg hl]
def k51_VsCDays : List Nat := [0,2]
attribute [go_sem] k51_VsCDays
theorem f51_ok (y : Int) (hy : 0 ≤ y ∧ y ≤ 1000000) : CallsP Try.prog 51 [.int .i64 y] (.bool (decide (leapP y))) := by
  refine CallsP.intro Try.func51 rfl (by show 1 ≤ 16; decide) ?_
  rintro X hX
  have hn : X.n = 16 := hX
  unfold Try.f51
  dsimp only
  rw [entry1]
  repeat' first
    | with_reducible (first | refine AWP.seqA ?_ | refine AWP.seqB ?_ | refine AWP.block ?_ | refine AWP.skipN ?_ | refine AWP.skip ?_ | refine AWP.exit ?_ | refine AWP.ret ?_ | refine AWP.loopT 3 ?_ | refine AWP.unroll 3 ?_ | refine LoopN.succ ?_ | refine thenS_n ?_ | refine thenS_x ?_ | refine thenS_r ?_ | refine blockS_n ?_ | refine blockS_r ?_ | refine blockS_x ?_ | refine blockS_y (by decide) ?_)
    | ((with_reducible refine hK _ ?_); clear hK K) | ((with_reducible refine hKt ?_); clear hKt hKf Kt Kf) | ((with_reducible refine hKf ?_); clear hKt hKf Kt Kf) | ((with_reducible refine condP_split (fun hg => hKt ?_) (fun hg => hKf ?_)) <;> clear hKt hKf Kt Kf <;> (try simp only [hgW] at hg) <;> try (exfalso; omega))
    | ((first | (with_reducible refine guardP_split (fun hg => ?_) (fun hg => ?_)) <;> simp -implicitDefEqProofs only [hg, Int.cast_ofNat_Int, thL_ints, hn, go_sem, simprocAttr] <;> (try simp only [hgW] at hg) | ((first | with_reducible (first | refine AWP.seqRB k51_VsCDays fun K hK => ?_ | refine AWP.lastRB k51_VsCDays fun K hK => ?_ | refine AWP.seqC fun Kt Kf hKt hKf => ?_ | refine AWP.condK fun Kt Kf hKt hKf => ?_ | refine retS_ret ?_ | refine retS_end ?_)); simp -implicitDefEqProofs only [Int.cast_ofNat_Int, thL_ints, hn, go_sem, simprocAttr])) <;> try simp (disch := omega) only [wrW])
    | with_reducible refine And.intro (by first | omega | (simp only [hgW]; omega)) ?_
    | (exfalso; omega)
  all_goals
    congr 1
    first
      | (rw [decide_eq_true (by unfold leapP; omega)]; done)
      | (rw [decide_eq_false (by unfold leapP; omega)]; done)
      | (apply Bool.eq_iff_iff.2; simp only [decide_eq_true_eq]; unfold leapP; omega)
def k50_VsCDays : List Nat := [0,1,4,5,12]
attribute [go_sem] k50_VsCDays
theorem f50_ok (y : Int) (m : Nat) (hy : 0 ≤ y ∧ y ≤ 1000000) (hm : 1 ≤ m ∧ m ≤ 12) : CallsP Try.prog 50 [.int .i64 y, .int .i64 m] (.int .i64 ((mdL y).getD (m - 1) default)) := by
  have c := f51_ok y hy
  obtain ⟨L, hL⟩ : ∃ L : List Int, L = [31, 28, 31, 30, 31, 30, 31, 31, 30, 31, 30, 31] := ⟨_, rfl⟩
  have hLl : L.length = 12 := by rw [hL]; rfl
  have hF : [AV.int .i64 31, .int .i64 28, .int .i64 31, .int .i64 30, .int .i64 31, .int .i64 30, .int .i64 31, .int .i64 31, .int .i64 30, .int .i64 31, .int .i64 30, .int .i64 31] = L.map (AV.int .i64) := by rw [hL]; rfl
  refine CallsP.intro Try.func50 rfl (by show 2 ≤ 18; decide) ?_
  rintro X hX
  have hn : X.n = 18 := hX
  unfold Try.f50
  dsimp only
  rw [entry2]
  repeat' first
    | with_reducible (first | refine AWP.seqA ?_ | refine AWP.seqB ?_ | refine AWP.block ?_ | refine AWP.skipN ?_ | refine AWP.skip ?_ | refine AWP.exit ?_ | refine AWP.ret ?_ | refine AWP.loopT 3 ?_ | refine AWP.unroll 3 ?_ | refine LoopN.succ ?_ | refine thenS_n ?_ | refine thenS_x ?_ | refine thenS_r ?_ | refine blockS_n ?_ | refine blockS_r ?_ | refine blockS_x ?_ | refine blockS_y (by decide) ?_)
    | ((with_reducible refine hK _ ?_); clear hK K) | ((with_reducible refine hKt ?_); clear hKt hKf Kt Kf) | ((with_reducible refine hKf ?_); clear hKt hKf Kt Kf) | ((with_reducible refine condP_split (fun hg => hKt ?_) (fun hg => hKf ?_)) <;> clear hKt hKf Kt Kf <;> (try simp only [hgW] at hg) <;> try (exfalso; omega))
    | ((first | (with_reducible refine guardP_split (fun hg => ?_) (fun hg => ?_)) <;> simp -implicitDefEqProofs only [hg, hF, hLl, Int.cast_ofNat_Int, thL_ints, hn, go_sem, simprocAttr] <;> (try simp only [hgW] at hg) | ((first | with_reducible (first | refine AWP.seqRB k50_VsCDays fun K hK => ?_ | refine AWP.lastRB k50_VsCDays fun K hK => ?_ | refine AWP.seqC fun Kt Kf hKt hKf => ?_ | refine AWP.condK fun Kt Kf hKt hKf => ?_ | refine retS_ret ?_ | refine retS_end ?_) | refine callE_P (c) ?_ | refine callP_intro2 (c) ?_ | refine callE_X (c) ?_); simp -implicitDefEqProofs only [hF, hLl, Int.cast_ofNat_Int, thL_ints, hn, go_sem, simprocAttr])) <;> try simp (disch := omega) only [wrW])
    | with_reducible refine And.intro (by first | omega | (simp only [hgW]; omega)) ?_
    | (exfalso; omega)
  · have e : m - 1 = 1 := by omega
    rw [e]
    unfold mdL
    rw [if_pos hg]
    rfl
  · have e : ((m : Int) - 1).toNat = m - 1 := by omega
    rw [e, mdL_no y (m - 1) (.inl hg), hL]
  · have e : ((m : Int) - 1).toNat = m - 1 := by omega
    rw [e, mdL_no y (m - 1) (.inr (by omega)), hL]
def k49_VsCDays : List Nat := [0,1,4,5,6,7,8,22,24,25,26,33]
def a49_10_VsCDays : List Nat := [0,0,2,6,14,1,63]
def o49_10_VsCDays : List Nat := [0,1,2,3,4,5,6]
attribute [go_sem] k49_VsCDays a49_10_VsCDays o49_10_VsCDays
def pre (L : List Int) : Nat → Int
  | 0 => 0
  | k + 1 => pre L k + L.getD k default
theorem pre_bd {L : List Int} (h : ∀ i, 0 ≤ L.getD i default ∧ L.getD i default ≤ 31) : ∀ k, 0 ≤ pre L k ∧ pre L k ≤ 31 * k
  | 0 => by simp [pre]
  | k + 1 => by
    have h1 := pre_bd h k
    have h2 := h k
    simp only [pre]
    omega
theorem f49_ok (y : Int) (m : Nat) (hy : 0 ≤ y ∧ y ≤ 1000000) (hm : 1 ≤ m ∧ m ≤ 12) : CallsP Try.prog 49 [.int .u64 y, .int .u64 m] (.tup [.int .u64 (pre (mdL y) (m - 1)), .int .u64 ((mdL y).getD (m - 1) default)]) := by
  obtain ⟨L, hL⟩ : ∃ L : List Int, mdL y = L := ⟨_, rfl⟩
  have hLl : L.length = 12 := by rw [← hL]; rfl
  have hLb := mdL_bd y
  rw [hL] at hLb ⊢
  have hT : L.take 12 = L := List.take_of_length_le (by omega)
  by_cases hy4 : leapP y
  · have hF : [AV.int .u64 31, .int .u64 29, .int .u64 31, .int .u64 30, .int .u64 31, .int .u64 30, .int .u64 31, .int .u64 31, .int .u64 30, .int .u64 31, .int .u64 30, .int .u64 31] = L.map (AV.int .u64) := by
      rw [← hL]; unfold mdL; rw [if_pos hy4]; rfl
    unfold leapP at hy4
    refine CallsP.intro Try.func49 rfl (by show 2 ≤ 43; decide) ?_
    rintro X hX
    have hn : X.n = 43 := hX
    unfold Try.f49
    dsimp only
    rw [entry2]
    repeat' first
      | with_reducible (first | refine AWP.seqA ?_ | refine AWP.seqB ?_ | refine AWP.block ?_ | refine AWP.skipN ?_ | refine AWP.skip ?_ | refine AWP.exit ?_ | refine AWP.ret ?_ | refine LoopN.succ ?_ | refine thenS_n ?_ | refine thenS_x ?_ | refine thenS_r ?_ | refine blockS_n ?_ | refine blockS_r ?_ | refine blockS_x ?_ | refine blockS_y (by decide) ?_)
      | ((with_reducible refine hK _ ?_); clear hK K) | ((with_reducible refine hKt ?_); clear hKt hKf Kt Kf) | ((with_reducible refine hKf ?_); clear hKt hKf Kt Kf) | ((with_reducible refine condP_split (fun hg => hKt ?_) (fun hg => hKf ?_)) <;> clear hKt hKf Kt Kf <;> (try simp only [hgW] at hg) <;> try (exfalso; omega))
      | ((first | (with_reducible refine guardP_split (fun hg => ?_) (fun hg => ?_)) <;> simp -implicitDefEqProofs only [hg, hF, hT, hLl, Int.cast_ofNat_Int, thL_ints, hn, go_sem, simprocAttr] <;> (try simp only [hgW] at hg) | ((first | with_reducible (first | refine AWP.seqRB k49_VsCDays fun K hK => ?_ | refine AWP.lastRB k49_VsCDays fun K hK => ?_ | refine AWP.seqD (id := 10) k49_VsCDays a49_10_VsCDays o49_10_VsCDays mixed (by kernel_rfl) (by kernel_rfl) fun K hK => ?_ | refine AWP.lastD (id := 10) k49_VsCDays a49_10_VsCDays o49_10_VsCDays mixed (by kernel_rfl) (by kernel_rfl) fun K hK => ?_ | refine AWP.seqC fun Kt Kf hKt hKf => ?_ | refine AWP.condK fun Kt Kf hKt hKf => ?_ | refine retS_ret ?_ | refine retS_end ?_)); simp -implicitDefEqProofs only [hF, hT, hLl, Int.cast_ofNat_Int, thL_ints, hn, go_sem, simprocAttr])) <;> try simp (disch := omega) only [wrW])
      | with_reducible refine And.intro (by first | omega | (simp only [hgW]; omega)) ?_
      | (exfalso; omega)
    all_goals refine AWP.loopX [1, 4, 6, 24, 25] [] (fun i : Nat => St.mk (lk [(1, .int .u64 m), (4, .int .u64 (pre L (min i (m - 1)))), (6, .ptr 6 0), (24, .agg (L.map (AV.int .u64))), (25, .int .i64 i)]) (lkB [(6, L.map (AV.int .u64))]) (hasS []) (hasS []) (hasN []) (lkR [])) (fun i => i ≤ 12) (fun i => 12 - i) 0 ?_ (by decide) ?_
    all_goals try (simp -implicitDefEqProofs only [Nat.zero_min, pre, Int.cast_ofNat_Int, thL_ints, hn, go_sem, simprocAttr]; done)
    all_goals
      intro i hi
      have hp := pre_bd hLb (min i (m - 1))
      have hm12 : min i (m - 1) ≤ 12 := by omega
      have hli := hLb i
      repeat' first
        | with_reducible (first | refine AWP.seqA ?_ | refine AWP.seqB ?_ | refine AWP.block ?_ | refine AWP.skipN ?_ | refine AWP.skip ?_ | refine AWP.exit ?_ | refine AWP.ret ?_ | refine LoopN.succ ?_ | refine thenS_n ?_ | refine thenS_x ?_ | refine thenS_r ?_ | refine blockS_n ?_ | refine blockS_r ?_ | refine blockS_x ?_ | refine blockS_y (by decide) ?_)
        | ((with_reducible refine hK _ ?_); clear hK K) | ((with_reducible refine hKt ?_); clear hKt hKf Kt Kf) | ((with_reducible refine hKf ?_); clear hKt hKf Kt Kf) | ((with_reducible refine condP_split (fun hg => hKt ?_) (fun hg => hKf ?_)) <;> clear hKt hKf Kt Kf <;> (try simp only [hgW] at hg) <;> try (exfalso; omega))
        | ((first | (with_reducible refine guardP_split (fun hg => ?_) (fun hg => ?_)) <;> simp -implicitDefEqProofs only [hg, hLl, Int.cast_ofNat_Int, thL_ints, hn, go_sem, simprocAttr] <;> (try simp only [hgW] at hg) | ((first | with_reducible (first | refine AWP.seqRB k49_VsCDays fun K hK => ?_ | refine AWP.lastRB k49_VsCDays fun K hK => ?_ | refine AWP.seqD (id := 10) k49_VsCDays a49_10_VsCDays o49_10_VsCDays mixed (by kernel_rfl) (by kernel_rfl) fun K hK => ?_ | refine AWP.lastD (id := 10) k49_VsCDays a49_10_VsCDays o49_10_VsCDays mixed (by kernel_rfl) (by kernel_rfl) fun K hK => ?_ | refine AWP.seqC fun Kt Kf hKt hKf => ?_ | refine AWP.condK fun Kt Kf hKt hKf => ?_ | refine retS_ret ?_ | refine retS_end ?_)); simp -implicitDefEqProofs only [hLl, Int.cast_ofNat_Int, thL_ints, hn, go_sem, simprocAttr])) <;> try simp (disch := omega) only [wrW])
        | with_reducible refine And.intro (by first | omega | (simp only [hgW]; omega)) ?_
        | (exfalso; omega)
    all_goals first
      | (have e : min i (m - 1) = m - 1 := by omega
         have e2 : ((m : Int) - 1).toNat = m - 1 := by omega
         rw [e, e2]; done)
      | (refine ⟨i + 1, ?_, by omega, by omega⟩
         have e1 : min i (m - 1) = i := by omega
         have e2 : min (i + 1) (m - 1) = i + 1 := by omega
         have e3 : pre L (i + 1) = pre L i + L.getD i default := rfl
         rw [e2, e3]
         simp only [e1]
         simp -implicitDefEqProofs only [Int.cast_ofNat_Int, thL_ints, hn, go_sem, simprocAttr]
         try rfl
         done)
      | (refine ⟨i + 1, ?_, by omega, by omega⟩
         have e1 : min i (m - 1) = m - 1 := by omega
         have e2 : min (i + 1) (m - 1) = m - 1 := by omega
         rw [e2]
         simp only [e1]
         simp -implicitDefEqProofs only [Int.cast_ofNat_Int, thL_ints, hn, go_sem, simprocAttr]
         try rfl
         done)
    all_goals trace_state
  · have hF : [AV.int .u64 31, .int .u64 28, .int .u64 31, .int .u64 30, .int .u64 31, .int .u64 30, .int .u64 31, .int .u64 31, .int .u64 30, .int .u64 31, .int .u64 30, .int .u64 31] = L.map (AV.int .u64) := by
      rw [← hL]; unfold mdL; rw [if_neg hy4]; rfl
    unfold leapP at hy4
    refine CallsP.intro Try.func49 rfl (by show 2 ≤ 43; decide) ?_
    rintro X hX
    have hn : X.n = 43 := hX
    unfold Try.f49
    dsimp only
    rw [entry2]
    repeat' first
      | with_reducible (first | refine AWP.seqA ?_ | refine AWP.seqB ?_ | refine AWP.block ?_ | refine AWP.skipN ?_ | refine AWP.skip ?_ | refine AWP.exit ?_ | refine AWP.ret ?_ | refine LoopN.succ ?_ | refine thenS_n ?_ | refine thenS_x ?_ | refine thenS_r ?_ | refine blockS_n ?_ | refine blockS_r ?_ | refine blockS_x ?_ | refine blockS_y (by decide) ?_)
      | ((with_reducible refine hK _ ?_); clear hK K) | ((with_reducible refine hKt ?_); clear hKt hKf Kt Kf) | ((with_reducible refine hKf ?_); clear hKt hKf Kt Kf) | ((with_reducible refine condP_split (fun hg => hKt ?_) (fun hg => hKf ?_)) <;> clear hKt hKf Kt Kf <;> (try simp only [hgW] at hg) <;> try (exfalso; omega))
      | ((first | (with_reducible refine guardP_split (fun hg => ?_) (fun hg => ?_)) <;> simp -implicitDefEqProofs only [hg, hF, hT, hLl, Int.cast_ofNat_Int, thL_ints, hn, go_sem, simprocAttr] <;> (try simp only [hgW] at hg) | ((first | with_reducible (first | refine AWP.seqRB k49_VsCDays fun K hK => ?_ | refine AWP.lastRB k49_VsCDays fun K hK => ?_ | refine AWP.seqD (id := 10) k49_VsCDays a49_10_VsCDays o49_10_VsCDays mixed (by kernel_rfl) (by kernel_rfl) fun K hK => ?_ | refine AWP.lastD (id := 10) k49_VsCDays a49_10_VsCDays o49_10_VsCDays mixed (by kernel_rfl) (by kernel_rfl) fun K hK => ?_ | refine AWP.seqC fun Kt Kf hKt hKf => ?_ | refine AWP.condK fun Kt Kf hKt hKf => ?_ | refine retS_ret ?_ | refine retS_end ?_)); simp -implicitDefEqProofs only [hF, hT, hLl, Int.cast_ofNat_Int, thL_ints, hn, go_sem, simprocAttr])) <;> try simp (disch := omega) only [wrW])
      | with_reducible refine And.intro (by first | omega | (simp only [hgW]; omega)) ?_
      | (exfalso; omega)
    all_goals refine AWP.loopX [1, 4, 6, 24, 25] [] (fun i : Nat => St.mk (lk [(1, .int .u64 m), (4, .int .u64 (pre L (min i (m - 1)))), (6, .ptr 6 0), (24, .agg (L.map (AV.int .u64))), (25, .int .i64 i)]) (lkB [(6, L.map (AV.int .u64))]) (hasS []) (hasS []) (hasN []) (lkR [])) (fun i => i ≤ 12) (fun i => 12 - i) 0 ?_ (by decide) ?_
    all_goals try (simp -implicitDefEqProofs only [Nat.zero_min, pre, Int.cast_ofNat_Int, thL_ints, hn, go_sem, simprocAttr]; done)
    all_goals
      intro i hi
      have hp := pre_bd hLb (min i (m - 1))
      have hm12 : min i (m - 1) ≤ 12 := by omega
      have hli := hLb i
      repeat' first
        | with_reducible (first | refine AWP.seqA ?_ | refine AWP.seqB ?_ | refine AWP.block ?_ | refine AWP.skipN ?_ | refine AWP.skip ?_ | refine AWP.exit ?_ | refine AWP.ret ?_ | refine LoopN.succ ?_ | refine thenS_n ?_ | refine thenS_x ?_ | refine thenS_r ?_ | refine blockS_n ?_ | refine blockS_r ?_ | refine blockS_x ?_ | refine blockS_y (by decide) ?_)
        | ((with_reducible refine hK _ ?_); clear hK K) | ((with_reducible refine hKt ?_); clear hKt hKf Kt Kf) | ((with_reducible refine hKf ?_); clear hKt hKf Kt Kf) | ((with_reducible refine condP_split (fun hg => hKt ?_) (fun hg => hKf ?_)) <;> clear hKt hKf Kt Kf <;> (try simp only [hgW] at hg) <;> try (exfalso; omega))
        | ((first | (with_reducible refine guardP_split (fun hg => ?_) (fun hg => ?_)) <;> simp -implicitDefEqProofs only [hg, hLl, Int.cast_ofNat_Int, thL_ints, hn, go_sem, simprocAttr] <;> (try simp only [hgW] at hg) | ((first | with_reducible (first | refine AWP.seqRB k49_VsCDays fun K hK => ?_ | refine AWP.lastRB k49_VsCDays fun K hK => ?_ | refine AWP.seqD (id := 10) k49_VsCDays a49_10_VsCDays o49_10_VsCDays mixed (by kernel_rfl) (by kernel_rfl) fun K hK => ?_ | refine AWP.lastD (id := 10) k49_VsCDays a49_10_VsCDays o49_10_VsCDays mixed (by kernel_rfl) (by kernel_rfl) fun K hK => ?_ | refine AWP.seqC fun Kt Kf hKt hKf => ?_ | refine AWP.condK fun Kt Kf hKt hKf => ?_ | refine retS_ret ?_ | refine retS_end ?_)); simp -implicitDefEqProofs only [hLl, Int.cast_ofNat_Int, thL_ints, hn, go_sem, simprocAttr])) <;> try simp (disch := omega) only [wrW])
        | with_reducible refine And.intro (by first | omega | (simp only [hgW]; omega)) ?_
        | (exfalso; omega)
    all_goals first
      | (have e : min i (m - 1) = m - 1 := by omega
         have e2 : ((m : Int) - 1).toNat = m - 1 := by omega
         rw [e, e2]; done)
      | (refine ⟨i + 1, ?_, by omega, by omega⟩
         have e1 : min i (m - 1) = i := by omega
         have e2 : min (i + 1) (m - 1) = i + 1 := by omega
         have e3 : pre L (i + 1) = pre L i + L.getD i default := rfl
         rw [e2, e3]
         simp only [e1]
         simp -implicitDefEqProofs only [Int.cast_ofNat_Int, thL_ints, hn, go_sem, simprocAttr]
         try rfl
         done)
      | (refine ⟨i + 1, ?_, by omega, by omega⟩
         have e1 : min i (m - 1) = m - 1 := by omega
         have e2 : min (i + 1) (m - 1) = m - 1 := by omega
         rw [e2]
         simp only [e1]
         simp -implicitDefEqProofs only [Int.cast_ofNat_Int, thL_ints, hn, go_sem, simprocAttr]
         try rfl
         done)
    all_goals trace_state
end Go.Proofs.Ytedjcbdhafmjiaa
