/- The law DerDays' writing of a time. -/
import Derived.Test.YtedjcbdhafmjiaaVsCTimeS
import Derived.Test.YtedjcbdhafmjiaaVsRebox
open Go Go.VS
namespace Go.Proofs.Ytedjcbdhafmjiaa
set_option linter.unusedVariables false
set_option linter.unusedSimpArgs false
set_option maxRecDepth 20000
set_option maxHeartbeats 4000000
/-- Two digits. -/
def twoD (n : Int) : List UInt8 := [UInt8.ofNat (48 + n / 10 % 10).toNat, UInt8.ofNat (48 + n % 10).toNat]
theorem twoD_len (n : Int) : (twoD n).length = 2 := rfl
def k31_VsCDay2 : List Nat := [0,2]
attribute [go_sem] k31_VsCDay2
theorem f31_ok (n : Int) (hn0 : 0 ≤ n ∧ n ≤ 100000) : CallsP Try.prog 31 [.int .i64 n] (.str (twoD n)) := by
  have e1 : AV.int .u8 (48 + n / 10 % 10) = u8 (UInt8.ofNat (48 + n / 10 % 10).toNat) := by
    unfold u8; rw [UInt8.toNat_ofNat', Nat.mod_eq_of_lt (by omega)]; congr 1; omega
  have e2 : AV.int .u8 (48 + n % 10) = u8 (UInt8.ofNat (48 + n % 10).toNat) := by
    unfold u8; rw [UInt8.toNat_ofNat', Nat.mod_eq_of_lt (by omega)]; congr 1; omega
  have hb : bytesOf [.int .u8 (48 + n / 10 % 10), .int .u8 (48 + n % 10)] = some (twoD n) := by
    rw [e1, e2]; exact bytesOf_u8 [_, _]
  refine CallsP.intro Try.func31 rfl (by show 1 ≤ 14; decide) ?_
  rintro X hX
  have hn : X.n = 14 := hX
  unfold Try.f31
  dsimp only
  rw [entry1]
  repeat' first
    | with_reducible (first | refine AWP.seqA ?_ | refine AWP.seqB ?_ | refine AWP.block ?_ | refine AWP.skipN ?_ | refine AWP.skip ?_ | refine AWP.exit ?_ | refine AWP.ret ?_ | refine AWP.loopT 3 ?_ | refine AWP.unroll 3 ?_ | refine LoopN.succ ?_ | refine thenS_n ?_ | refine thenS_x ?_ | refine thenS_r ?_ | refine blockS_n ?_ | refine blockS_r ?_ | refine blockS_x ?_ | refine blockS_y (by decide) ?_)
    | ((with_reducible refine hK _ ?_); clear hK K) | ((with_reducible refine hKt ?_); clear hKt hKf Kt Kf) | ((with_reducible refine hKf ?_); clear hKt hKf Kt Kf) | ((with_reducible refine condP_split (fun hg => hKt ?_) (fun hg => hKf ?_)) <;> clear hKt hKf Kt Kf <;> (try simp only [hgW] at hg) <;> try (exfalso; omega))
    | ((first | (with_reducible refine guardP_split (fun hg => ?_) (fun hg => ?_)) <;> simp -implicitDefEqProofs only [hg, hb, hn, go_sem, simprocAttr] <;> (try simp only [hgW] at hg) | ((first | with_reducible (first | refine AWP.seqRB k31_VsCDay2 fun K hK => ?_ | refine AWP.lastRB k31_VsCDay2 fun K hK => ?_ | refine AWP.seqC fun Kt Kf hKt hKf => ?_ | refine AWP.condK fun Kt Kf hKt hKf => ?_ | refine retS_ret ?_ | refine retS_end ?_)); simp -implicitDefEqProofs only [hb, hn, go_sem, simprocAttr])) <;> try (simp (disch := omega) only [wrW]; try simp -implicitDefEqProofs only [hb, hn, go_sem, simprocAttr]))
    | with_reducible refine And.intro (by first | omega | (simp only [hgW]; omega)) ?_
    | (exfalso; omega)
/-- The days ahead of a year, from 1970 on. -/
def yearD (Y : Int) : Int := 365 * (Y - 1970) + ((Y - 1) / 4 - (Y - 1) / 100 + (Y - 1) / 400) - 477
theorem yearD_leap {Y : Int} (h : leapP Y) : yearD (Y + 1) = yearD Y + 366 := by
  unfold leapP at h; unfold yearD; omega
theorem yearD_no {Y : Int} (h : ¬ leapP Y) : yearD (Y + 1) = yearD Y + 365 := by
  unfold leapP at h; unfold yearD; omega
theorem pre12 (Y : Int) : pre (mdL Y) 12 = if leapP Y then 366 else 365 := by
  unfold mdL
  split <;> rfl
/-- A day's time of day, written. -/
def wrTime (Y : Int) (m : Nat) (d s : Int) : List UInt8 := twoD (Y % 100) ++ twoD m ++ twoD (d + 1) ++ twoD (s / 3600) ++ twoD (s / 60 % 60) ++ twoD (s % 60) ++ [90]
def wrTag (Y : Int) : Int := if Y < 2050 then 23 else 24
def wrFull (Y : Int) (m : Nat) (d s : Int) : List UInt8 := if Y < 2050 then wrTime Y m d s else twoD (Y / 100) ++ wrTime Y m d s
theorem yearD_mono {a b : Int} (h : a ≤ b) : yearD a ≤ yearD b := by unfold yearD; omega
theorem pre_mono {L : List Int} (h : ∀ i, 0 ≤ L.getD i default) {a b : Nat} (hab : a ≤ b) : pre L a ≤ pre L b := by
  induction hab with
  | refl => exact Int.le_refl _
  | step _ ih => have := h ‹_›; simp only [pre]; omega
theorem year_ex (day : Int) (h0 : 0 ≤ day) : ∀ k : Nat, day < yearD (1970 + k) → ∃ Y : Int, 1970 ≤ Y ∧ Y < 1970 + k ∧ yearD Y ≤ day ∧ day < yearD (Y + 1)
  | 0, h => by simp [yearD] at h; omega
  | k + 1, h => by
    by_cases hk : day < yearD (1970 + k)
    · obtain ⟨Y, h1, h2, h3, h4⟩ := year_ex day h0 k hk
      exact ⟨Y, h1, by omega, h3, h4⟩
    · refine ⟨1970 + k, by omega, by omega, by omega, ?_⟩
      rw [show (1970 : Int) + k + 1 = 1970 + ((k + 1 : Nat) : Int) by omega]; exact h
theorem month_ex (L : List Int) (r : Int) (h0 : 0 ≤ r) : ∀ k : Nat, r < pre L k → ∃ m : Nat, 1 ≤ m ∧ m ≤ k ∧ pre L (m - 1) ≤ r ∧ r < pre L m
  | 0, h => by simp only [pre] at h; omega
  | k + 1, h => by
    by_cases hk : r < pre L k
    · obtain ⟨m, h1, h2, h3, h4⟩ := month_ex L r h0 k hk
      exact ⟨m, h1, by omega, h3, h4⟩
    · exact ⟨k + 1, by omega, by omega, by simp only [Nat.add_sub_cancel]; omega, h⟩
theorem pre_pred {L : List Int} {m : Nat} (h : 1 ≤ m) : pre L m = pre L (m - 1) + L.getD (m - 1) default := by
  obtain ⟨k, rfl⟩ : ∃ k, m = k + 1 := ⟨m - 1, by omega⟩
  rfl
/-- A day's year, month and day in it. -/
theorem date_ex (day : Int) (hd : 0 ≤ day ∧ day ≤ 65535) : ∃ (Y : Int) (m : Nat) (d : Int), (1970 ≤ Y ∧ Y < 2200) ∧ (1 ≤ m ∧ m ≤ 12) ∧ (0 ≤ d ∧ d < (mdL Y).getD (m - 1) default) ∧ day = yearD Y + pre (mdL Y) (m - 1) + d := by
  obtain ⟨Y, h1, h2, h3, h4⟩ := year_ex day hd.1 230 (by simp [yearD]; omega)
  have h5 : day - yearD Y < pre (mdL Y) 12 := by
    rw [pre12]
    split
    · rename_i h; rw [yearD_leap h] at h4; omega
    · rename_i h; rw [yearD_no h] at h4; omega
  obtain ⟨m, q1, q2, q3, q4⟩ := month_ex (mdL Y) (day - yearD Y) (by omega) 12 h5
  rw [pre_pred q1] at q4
  exact ⟨Y, m, day - yearD Y - pre (mdL Y) (m - 1), ⟨h1, by omega⟩, ⟨q1, q2⟩, by omega, by omega⟩
def k32_VsCDay2 : List Nat := [0,1,2,5,6,7,8,9,10,23,26,52,55,92]
def a32_15_VsCDay2 : List Nat := [0,0,2,7,0,0,63,127,0,0,512,1919,4095,0,0,16384,61311,131071,0,0,524288,1572864,4059007,8388607,0,0,33554432,125693823,268435455,536870911,1073741823]
def o32_15_VsCDay2 : List Nat := [0,1,2,3,4,5,6,8,9,10,11,13,14,15,16,18,19,20,21,22,24,25,26,27,7,12,17,23,28,29,30]
attribute [go_sem] k32_VsCDay2 a32_15_VsCDay2 o32_15_VsCDay2
theorem f32_ok (day s : Int) (hs : 0 ≤ s ∧ s < 86400) (Y : Int) (m : Nat) (d : Int) (hY : 1970 ≤ Y ∧ Y < 2200) (hm : 1 ≤ m ∧ m ≤ 12) (hd : 0 ≤ d ∧ d < (mdL Y).getD (m - 1) default) (hday : day = yearD Y + pre (mdL Y) (m - 1) + d) :
    CallsB Try.prog 32 [.int .i64 day, .int .i64 s, .ptr 1000000 0] [[.fn 31 []]] (.agg [.int .u8 (wrTag Y), .sl (some ((3, 0), 0)) false 1 ((wrFull Y m d s).map u8)]) [[.fn 31 []]] := by
  have hb := mdL_bd Y (m - 1)
  have hp12 := pre_mono (fun i => (mdL_bd Y i).1) (show m ≤ 12 by omega)
  rw [pre_pred hm.1] at hp12
  have hok : callOk Try.prog 31 = true := rfl
  have hp0 : 0 ≤ pre (mdL Y) (m - 1) := pre_mono (fun i => (mdL_bd Y i).1) (show 0 ≤ m - 1 by omega)
  have hYd : 0 ≤ yearD Y ∧ yearD Y ≤ 100000 := by unfold yearD; omega
  have hp366 : pre (mdL Y) (m - 1) ≤ 366 := by rw [pre12] at hp12; split at hp12 <;> omega
  refine CallsB.intro Try.func32 rfl (by show 3 ≤ 104; decide) ?_
  rintro X hX
  have hn : X.n = 104 := hX
  unfold Try.f32
  dsimp only
  rw [entryB31]
  repeat' first
    | with_reducible (first | refine AWP.seqA ?_ | refine AWP.seqB ?_ | refine AWP.block ?_ | refine AWP.skipN ?_ | refine AWP.skip ?_ | refine AWP.exit ?_ | refine AWP.ret ?_ | refine LoopN.succ ?_ | refine thenS_n ?_ | refine thenS_x ?_ | refine thenS_r ?_ | refine blockS_n ?_ | refine blockS_r ?_ | refine blockS_x ?_ | refine blockS_y (by decide) ?_)
    | ((with_reducible refine hK _ ?_); clear hK K) | ((with_reducible refine hKt ?_); clear hKt hKf Kt Kf) | ((with_reducible refine hKf ?_); clear hKt hKf Kt Kf) | ((with_reducible refine condP_split (fun hg => hKt ?_) (fun hg => hKf ?_)) <;> clear hKt hKf Kt Kf <;> (try simp only [hgW] at hg) <;> try (exfalso; omega))
    | ((first | (with_reducible refine guardP_split (fun hg => ?_) (fun hg => ?_)) <;> simp -implicitDefEqProofs only [hg, hn, go_sem, simprocAttr] <;> (try simp only [hgW] at hg) | ((first | with_reducible (first | refine AWP.seqRB k32_VsCDay2 fun K hK => ?_ | refine AWP.lastRB k32_VsCDay2 fun K hK => ?_ | refine AWP.seqD (id := 15) k32_VsCDay2 a32_15_VsCDay2 o32_15_VsCDay2 mixed (by kernel_rfl) (by kernel_rfl) fun K hK => ?_ | refine AWP.lastD (id := 15) k32_VsCDay2 a32_15_VsCDay2 o32_15_VsCDay2 mixed (by kernel_rfl) (by kernel_rfl) fun K hK => ?_ | refine AWP.seqC fun Kt Kf hKt hKf => ?_ | refine AWP.condK fun Kt Kf hKt hKf => ?_ | refine retSB_ret [] ?_ | refine retSB_end [] ?_)); simp -implicitDefEqProofs only [hn, go_sem, simprocAttr])) <;> try (simp (disch := omega) only [wrW]; try simp -implicitDefEqProofs only [hn, go_sem, simprocAttr]))
    | with_reducible refine And.intro (by first | omega | (simp only [hgW]; omega)) ?_
    | (exfalso; omega)
  have h1970 : yearD 1970 = 0 := by decide
  refine AWP.loopX [0, 1, 2, 5, 6] [] (fun y : Nat => St.mk (lk [(0, .int .i64 (day - yearD (1970 + y))), (1, .int .i64 s), (2, .ptr 1000000 0), (5, .ptr 5 0), (6, .int .i64 (1970 + y))]) (lkB [(1000000, [.fn 31 []]), (5, [.int .u8 0, .sl none true 1 []])]) (hasS []) (hasS []) (hasN []) (lkR []))
    (fun y => 1970 + (y : Int) ≤ Y) (fun y => (Y - 1970 - y).toNat) 0 ?_ (by omega) ?_
  · simp -implicitDefEqProofs only [hn, go_sem, simprocAttr]
    rw [h1970, Int.sub_zero]
  · intro y hy
    have hm1 := yearD_mono hy
    have hy0 : yearD 1970 ≤ yearD (1970 + y) := yearD_mono (by omega)
    rw [h1970] at hy0
    have ey : (1970 + ((y + 1 : Nat) : Int)) = 1970 + (y : Int) + 1 := by omega
    by_cases hyY : 1970 + (y : Int) < Y
    · have hm2 := yearD_mono (show 1970 + (y : Int) + 1 ≤ Y by omega)
      by_cases hleap : leapP (1970 + y)
      · have hstep := yearD_leap hleap
        unfold leapP at hleap
        repeat' first
          | with_reducible (first | refine AWP.seqA ?_ | refine AWP.seqB ?_ | refine AWP.block ?_ | refine AWP.skipN ?_ | refine AWP.skip ?_ | refine AWP.exit ?_ | refine AWP.ret ?_ | refine LoopN.succ ?_ | refine thenS_n ?_ | refine thenS_x ?_ | refine thenS_r ?_ | refine blockS_n ?_ | refine blockS_r ?_ | refine blockS_x ?_ | refine blockS_y (by decide) ?_)
          | ((with_reducible refine hK _ ?_); clear hK K) | ((with_reducible refine hKt ?_); clear hKt hKf Kt Kf) | ((with_reducible refine hKf ?_); clear hKt hKf Kt Kf) | ((with_reducible refine condP_split (fun hg => hKt ?_) (fun hg => hKf ?_)) <;> clear hKt hKf Kt Kf <;> (try simp only [hgW] at hg) <;> try (exfalso; omega))
          | ((first | (with_reducible refine guardP_split (fun hg => ?_) (fun hg => ?_)) <;> simp -implicitDefEqProofs only [hg, hn, go_sem, simprocAttr] <;> (try simp only [hgW] at hg) | ((first | with_reducible (first | refine AWP.seqRB k32_VsCDay2 fun K hK => ?_ | refine AWP.lastRB k32_VsCDay2 fun K hK => ?_ | refine AWP.seqD (id := 15) k32_VsCDay2 a32_15_VsCDay2 o32_15_VsCDay2 mixed (by kernel_rfl) (by kernel_rfl) fun K hK => ?_ | refine AWP.lastD (id := 15) k32_VsCDay2 a32_15_VsCDay2 o32_15_VsCDay2 mixed (by kernel_rfl) (by kernel_rfl) fun K hK => ?_ | refine AWP.seqC fun Kt Kf hKt hKf => ?_ | refine AWP.condK fun Kt Kf hKt hKf => ?_ | refine retSB_ret [] ?_ | refine retSB_end [] ?_)); simp -implicitDefEqProofs only [hn, go_sem, simprocAttr])) <;> try (simp (disch := omega) only [wrW]; try simp -implicitDefEqProofs only [hn, go_sem, simprocAttr]))
          | with_reducible refine And.intro (by first | omega | (simp only [hgW]; omega)) ?_
          | (exfalso; omega)
        all_goals
          refine ⟨y + 1, ?_, by omega, by omega⟩
          simp -implicitDefEqProofs only [hn, go_sem, simprocAttr]
          rw [ey, hstep, ← Int.sub_sub]
      · have hstep := yearD_no hleap
        unfold leapP at hleap
        repeat' first
          | with_reducible (first | refine AWP.seqA ?_ | refine AWP.seqB ?_ | refine AWP.block ?_ | refine AWP.skipN ?_ | refine AWP.skip ?_ | refine AWP.exit ?_ | refine AWP.ret ?_ | refine LoopN.succ ?_ | refine thenS_n ?_ | refine thenS_x ?_ | refine thenS_r ?_ | refine blockS_n ?_ | refine blockS_r ?_ | refine blockS_x ?_ | refine blockS_y (by decide) ?_)
          | ((with_reducible refine hK _ ?_); clear hK K) | ((with_reducible refine hKt ?_); clear hKt hKf Kt Kf) | ((with_reducible refine hKf ?_); clear hKt hKf Kt Kf) | ((with_reducible refine condP_split (fun hg => hKt ?_) (fun hg => hKf ?_)) <;> clear hKt hKf Kt Kf <;> (try simp only [hgW] at hg) <;> try (exfalso; omega))
          | ((first | (with_reducible refine guardP_split (fun hg => ?_) (fun hg => ?_)) <;> simp -implicitDefEqProofs only [hg, hn, go_sem, simprocAttr] <;> (try simp only [hgW] at hg) | ((first | with_reducible (first | refine AWP.seqRB k32_VsCDay2 fun K hK => ?_ | refine AWP.lastRB k32_VsCDay2 fun K hK => ?_ | refine AWP.seqD (id := 15) k32_VsCDay2 a32_15_VsCDay2 o32_15_VsCDay2 mixed (by kernel_rfl) (by kernel_rfl) fun K hK => ?_ | refine AWP.lastD (id := 15) k32_VsCDay2 a32_15_VsCDay2 o32_15_VsCDay2 mixed (by kernel_rfl) (by kernel_rfl) fun K hK => ?_ | refine AWP.seqC fun Kt Kf hKt hKf => ?_ | refine AWP.condK fun Kt Kf hKt hKf => ?_ | refine retSB_ret [] ?_ | refine retSB_end [] ?_)); simp -implicitDefEqProofs only [hn, go_sem, simprocAttr])) <;> try (simp (disch := omega) only [wrW]; try simp -implicitDefEqProofs only [hn, go_sem, simprocAttr]))
          | with_reducible refine And.intro (by first | omega | (simp only [hgW]; omega)) ?_
          | (exfalso; omega)
        all_goals
          refine ⟨y + 1, ?_, by omega, by omega⟩
          simp -implicitDefEqProofs only [hn, go_sem, simprocAttr]
          rw [ey, hstep, ← Int.sub_sub]
    · obtain rfl : Y = 1970 + (y : Int) := by omega
      obtain ⟨L, hL⟩ : ∃ L : List Int, L = [31, 28, 31, 30, 31, 30, 31, 31, 30, 31, 30, 31] := ⟨_, rfl⟩
      have hL1 : L.length = 12 := by rw [hL]; rfl
      have hF : [AV.int .i64 31, .int .i64 28, .int .i64 31, .int .i64 30, .int .i64 31, .int .i64 30, .int .i64 31, .int .i64 31, .int .i64 30, .int .i64 31, .int .i64 30, .int .i64 31] = L.map (AV.int .i64) := by rw [hL]; rfl
      by_cases hleap : leapP (1970 + y)
      · have hstep := yearD_leap hleap
        have hl2 := hleap
        rw [pre12, if_pos hleap] at hp12
        unfold leapP at hleap
        repeat' first
          | with_reducible (first | refine AWP.seqA ?_ | refine AWP.seqB ?_ | refine AWP.block ?_ | refine AWP.skipN ?_ | refine AWP.skip ?_ | refine AWP.exit ?_ | refine AWP.ret ?_ | refine LoopN.succ ?_ | refine thenS_n ?_ | refine thenS_x ?_ | refine thenS_r ?_ | refine blockS_n ?_ | refine blockS_r ?_ | refine blockS_x ?_ | refine blockS_y (by decide) ?_)
          | ((with_reducible refine hK _ ?_); clear hK K) | ((with_reducible refine hKt ?_); clear hKt hKf Kt Kf) | ((with_reducible refine hKf ?_); clear hKt hKf Kt Kf) | ((with_reducible refine condP_split (fun hg => hKt ?_) (fun hg => hKf ?_)) <;> clear hKt hKf Kt Kf <;> (try simp only [hgW] at hg) <;> try (exfalso; omega))
          | ((first | (with_reducible refine guardP_split (fun hg => ?_) (fun hg => ?_)) <;> simp -implicitDefEqProofs only [hg, hn, go_sem, simprocAttr] <;> (try simp only [hgW] at hg) | ((first | with_reducible (first | refine AWP.seqRB k32_VsCDay2 fun K hK => ?_ | refine AWP.lastRB k32_VsCDay2 fun K hK => ?_ | refine AWP.seqD (id := 15) k32_VsCDay2 a32_15_VsCDay2 o32_15_VsCDay2 mixed (by kernel_rfl) (by kernel_rfl) fun K hK => ?_ | refine AWP.lastD (id := 15) k32_VsCDay2 a32_15_VsCDay2 o32_15_VsCDay2 mixed (by kernel_rfl) (by kernel_rfl) fun K hK => ?_ | refine AWP.seqC fun Kt Kf hKt hKf => ?_ | refine AWP.condK fun Kt Kf hKt hKf => ?_ | refine retSB_ret [] ?_ | refine retSB_end [] ?_)); simp -implicitDefEqProofs only [hn, go_sem, simprocAttr])) <;> try (simp (disch := omega) only [wrW]; try simp -implicitDefEqProofs only [hn, go_sem, simprocAttr]))
          | with_reducible refine And.intro (by first | omega | (simp only [hgW]; omega)) ?_
          | (exfalso; omega)
        all_goals
          refine AWP.loopX [0, 1, 2, 5, 6, 8] [] (fun k : Nat => St.mk (lk [(0, .int .i64 (day - yearD (1970 + y) - pre (mdL (1970 + y)) k)), (1, .int .i64 s), (2, .ptr 1000000 0), (5, .ptr 5 0), (6, .int .i64 (1970 + y)), (8, .int .i64 (k + 1))]) (lkB [(1000000, [.fn 31 []]), (5, [.int .u8 0, .sl none true 1 []])]) (hasS []) (hasS []) (hasN []) (lkR []))
            (fun k => k + 1 ≤ m) (fun k => m - k) 0 ?_ (by omega) ?_
          · simp -implicitDefEqProofs only [hn, go_sem, simprocAttr]
            simp [pre]
          · intro k hk
            have hk1 := pre_mono (fun i => (mdL_bd (1970 + y) i).1) (show k ≤ m - 1 by omega)
            have hkb := mdL_bd (1970 + y) k
            have hkp : pre (mdL (1970 + y)) (k + 1) = pre (mdL (1970 + y)) k + (mdL (1970 + y)).getD k default := rfl
            have hk0 : 0 ≤ pre (mdL (1970 + y)) k := pre_mono (fun i => (mdL_bd (1970 + y) i).1) (show 0 ≤ k by omega)
            have ek : ((k : Int) + 1 - 1).toNat = k := by omega
            have ek2 : ((k + 1 : Nat) : Int) = (k : Int) + 1 := by omega
            by_cases hk1e : k = 1
            · have hv : (mdL (1970 + y)).getD k default = 29 := by rw [hk1e]; unfold mdL; rw [if_pos hl2]; rfl
              have hk12 : (k : Int) + 1 = 2 := by omega
              by_cases hkm : k + 1 < m
              · have hk2 := pre_mono (fun i => (mdL_bd (1970 + y) i).1) (show k + 1 ≤ m - 1 by omega)
                repeat' first
                  | with_reducible (first | refine AWP.seqA ?_ | refine AWP.seqB ?_ | refine AWP.block ?_ | refine AWP.skipN ?_ | refine AWP.skip ?_ | refine AWP.exit ?_ | refine AWP.ret ?_ | refine LoopN.succ ?_ | refine thenS_n ?_ | refine thenS_x ?_ | refine thenS_r ?_ | refine blockS_n ?_ | refine blockS_r ?_ | refine blockS_x ?_ | refine blockS_y (by decide) ?_)
                  | ((with_reducible refine hK _ ?_); clear hK K) | ((with_reducible refine hKt ?_); clear hKt hKf Kt Kf) | ((with_reducible refine hKf ?_); clear hKt hKf Kt Kf) | ((with_reducible refine condP_split (fun hg => hKt ?_) (fun hg => hKf ?_)) <;> clear hKt hKf Kt Kf <;> (try simp only [hgW] at hg) <;> try (exfalso; omega))
                  | ((first | (with_reducible refine guardP_split (fun hg => ?_) (fun hg => ?_)) <;> simp -implicitDefEqProofs only [hg, hF, hL1, ek, hn, go_sem, simprocAttr] <;> (try simp only [hgW] at hg) | ((first | with_reducible (first | refine AWP.seqRB k32_VsCDay2 fun K hK => ?_ | refine AWP.lastRB k32_VsCDay2 fun K hK => ?_ | refine AWP.seqD (id := 15) k32_VsCDay2 a32_15_VsCDay2 o32_15_VsCDay2 mixed (by kernel_rfl) (by kernel_rfl) fun K hK => ?_ | refine AWP.lastD (id := 15) k32_VsCDay2 a32_15_VsCDay2 o32_15_VsCDay2 mixed (by kernel_rfl) (by kernel_rfl) fun K hK => ?_ | refine AWP.seqC fun Kt Kf hKt hKf => ?_ | refine AWP.condK fun Kt Kf hKt hKf => ?_ | refine retSB_ret [] ?_ | refine retSB_end [] ?_)); simp -implicitDefEqProofs only [hF, hL1, ek, hn, go_sem, simprocAttr])) <;> try (simp (disch := omega) only [wrW]; try simp -implicitDefEqProofs only [hF, hL1, ek, hn, go_sem, simprocAttr]))
                  | with_reducible refine And.intro (by first | omega | (simp only [hgW]; omega)) ?_
                  | (exfalso; omega)
                all_goals
                  refine ⟨k + 1, ?_, by omega, by omega⟩
                  simp -implicitDefEqProofs only [hn, go_sem, simprocAttr]
                  first | rw [hkp, hv, ← Int.sub_sub, ek2] | rw [hkp, ← hv, ← Int.sub_sub, ek2]
              · obtain rfl : m = k + 1 := by omega
                simp only [Nat.add_sub_cancel] at hd hday hb hp12 hp0 hp366 hk1
                have hdd : day - yearD (1970 + y) - pre (mdL (1970 + y)) k = d := by omega
                rw [hdd]
                repeat' first
                  | with_reducible (first | refine AWP.seqA ?_ | refine AWP.seqB ?_ | refine AWP.block ?_ | refine AWP.skipN ?_ | refine AWP.skip ?_ | refine AWP.exit ?_ | refine AWP.ret ?_ | refine LoopN.succ ?_ | refine thenS_n ?_ | refine thenS_x ?_ | refine thenS_r ?_ | refine blockS_n ?_ | refine blockS_r ?_ | refine blockS_x ?_ | refine blockS_y (by decide) ?_)
                  | ((with_reducible refine hK _ ?_); clear hK K) | ((with_reducible refine hKt ?_); clear hKt hKf Kt Kf) | ((with_reducible refine hKf ?_); clear hKt hKf Kt Kf) | ((with_reducible refine condP_split (fun hg => hKt ?_) (fun hg => hKf ?_)) <;> clear hKt hKf Kt Kf <;> (try simp only [hgW] at hg) <;> try (exfalso; omega))
                  | ((first | (with_reducible refine guardP_split (fun hg => ?_) (fun hg => ?_)) <;> simp -implicitDefEqProofs only [hg, hF, hL1, ek, hok, twoD_len, List.length_append, hn, go_sem, simprocAttr] <;> (try simp only [hgW] at hg) | ((first | with_reducible (first | refine AWP.seqRB k32_VsCDay2 fun K hK => ?_ | refine AWP.lastRB k32_VsCDay2 fun K hK => ?_ | refine AWP.seqD (id := 15) k32_VsCDay2 a32_15_VsCDay2 o32_15_VsCDay2 mixed (by kernel_rfl) (by kernel_rfl) fun K hK => ?_ | refine AWP.lastD (id := 15) k32_VsCDay2 a32_15_VsCDay2 o32_15_VsCDay2 mixed (by kernel_rfl) (by kernel_rfl) fun K hK => ?_ | refine AWP.seqC fun Kt Kf hKt hKf => ?_ | refine AWP.condK fun Kt Kf hKt hKf => ?_ | refine retSB_ret [] ?_ | refine retSB_end [] ?_) | refine callE_P (f31_ok _ (by omega)) ?_ | refine callP_intro2 (f31_ok _ (by omega)) ?_ | refine callE_X (f31_ok _ (by omega)) ?_); simp -implicitDefEqProofs only [hF, hL1, ek, hok, twoD_len, List.length_append, hn, go_sem, simprocAttr])) <;> try (simp (disch := omega) only [wrW]; try simp -implicitDefEqProofs only [hF, hL1, ek, hok, twoD_len, List.length_append, hn, go_sem, simprocAttr]))
                  | with_reducible refine And.intro (by first | omega | (simp only [hgW]; omega)) ?_
                  | (exfalso; omega)
                all_goals
                  unfold wrTag wrFull
                  first | (rw [if_pos (by omega), if_pos (by omega)]; rfl) | (rw [if_neg (by omega), if_neg (by omega)]; rfl)
            · have hv : L.getD k default = (mdL (1970 + y)).getD k default := by rw [mdL_no (1970 + y) k (.inr hk1e), hL]
              have hk12 : ¬ (k : Int) + 1 = 2 := by omega
              by_cases hkm : k + 1 < m
              · have hk2 := pre_mono (fun i => (mdL_bd (1970 + y) i).1) (show k + 1 ≤ m - 1 by omega)
                repeat' first
                  | with_reducible (first | refine AWP.seqA ?_ | refine AWP.seqB ?_ | refine AWP.block ?_ | refine AWP.skipN ?_ | refine AWP.skip ?_ | refine AWP.exit ?_ | refine AWP.ret ?_ | refine LoopN.succ ?_ | refine thenS_n ?_ | refine thenS_x ?_ | refine thenS_r ?_ | refine blockS_n ?_ | refine blockS_r ?_ | refine blockS_x ?_ | refine blockS_y (by decide) ?_)
                  | ((with_reducible refine hK _ ?_); clear hK K) | ((with_reducible refine hKt ?_); clear hKt hKf Kt Kf) | ((with_reducible refine hKf ?_); clear hKt hKf Kt Kf) | ((with_reducible refine condP_split (fun hg => hKt ?_) (fun hg => hKf ?_)) <;> clear hKt hKf Kt Kf <;> (try simp only [hgW] at hg) <;> try (exfalso; omega))
                  | ((first | (with_reducible refine guardP_split (fun hg => ?_) (fun hg => ?_)) <;> simp -implicitDefEqProofs only [hg, hF, hL1, ek, hn, go_sem, simprocAttr] <;> (try simp only [hgW] at hg) | ((first | with_reducible (first | refine AWP.seqRB k32_VsCDay2 fun K hK => ?_ | refine AWP.lastRB k32_VsCDay2 fun K hK => ?_ | refine AWP.seqD (id := 15) k32_VsCDay2 a32_15_VsCDay2 o32_15_VsCDay2 mixed (by kernel_rfl) (by kernel_rfl) fun K hK => ?_ | refine AWP.lastD (id := 15) k32_VsCDay2 a32_15_VsCDay2 o32_15_VsCDay2 mixed (by kernel_rfl) (by kernel_rfl) fun K hK => ?_ | refine AWP.seqC fun Kt Kf hKt hKf => ?_ | refine AWP.condK fun Kt Kf hKt hKf => ?_ | refine retSB_ret [] ?_ | refine retSB_end [] ?_)); simp -implicitDefEqProofs only [hF, hL1, ek, hn, go_sem, simprocAttr])) <;> try (simp (disch := omega) only [wrW]; try simp -implicitDefEqProofs only [hF, hL1, ek, hn, go_sem, simprocAttr]))
                  | with_reducible refine And.intro (by first | omega | (simp only [hgW]; omega)) ?_
                  | (exfalso; omega)
                all_goals
                  refine ⟨k + 1, ?_, by omega, by omega⟩
                  simp -implicitDefEqProofs only [hn, go_sem, simprocAttr]
                  first | rw [hkp, hv, ← Int.sub_sub, ek2] | rw [hkp, ← hv, ← Int.sub_sub, ek2]
              · obtain rfl : m = k + 1 := by omega
                simp only [Nat.add_sub_cancel] at hd hday hb hp12 hp0 hp366 hk1
                have hdd : day - yearD (1970 + y) - pre (mdL (1970 + y)) k = d := by omega
                rw [hdd]
                repeat' first
                  | with_reducible (first | refine AWP.seqA ?_ | refine AWP.seqB ?_ | refine AWP.block ?_ | refine AWP.skipN ?_ | refine AWP.skip ?_ | refine AWP.exit ?_ | refine AWP.ret ?_ | refine LoopN.succ ?_ | refine thenS_n ?_ | refine thenS_x ?_ | refine thenS_r ?_ | refine blockS_n ?_ | refine blockS_r ?_ | refine blockS_x ?_ | refine blockS_y (by decide) ?_)
                  | ((with_reducible refine hK _ ?_); clear hK K) | ((with_reducible refine hKt ?_); clear hKt hKf Kt Kf) | ((with_reducible refine hKf ?_); clear hKt hKf Kt Kf) | ((with_reducible refine condP_split (fun hg => hKt ?_) (fun hg => hKf ?_)) <;> clear hKt hKf Kt Kf <;> (try simp only [hgW] at hg) <;> try (exfalso; omega))
                  | ((first | (with_reducible refine guardP_split (fun hg => ?_) (fun hg => ?_)) <;> simp -implicitDefEqProofs only [hg, hF, hL1, ek, hok, twoD_len, List.length_append, hn, go_sem, simprocAttr] <;> (try simp only [hgW] at hg) | ((first | with_reducible (first | refine AWP.seqRB k32_VsCDay2 fun K hK => ?_ | refine AWP.lastRB k32_VsCDay2 fun K hK => ?_ | refine AWP.seqD (id := 15) k32_VsCDay2 a32_15_VsCDay2 o32_15_VsCDay2 mixed (by kernel_rfl) (by kernel_rfl) fun K hK => ?_ | refine AWP.lastD (id := 15) k32_VsCDay2 a32_15_VsCDay2 o32_15_VsCDay2 mixed (by kernel_rfl) (by kernel_rfl) fun K hK => ?_ | refine AWP.seqC fun Kt Kf hKt hKf => ?_ | refine AWP.condK fun Kt Kf hKt hKf => ?_ | refine retSB_ret [] ?_ | refine retSB_end [] ?_) | refine callE_P (f31_ok _ (by omega)) ?_ | refine callP_intro2 (f31_ok _ (by omega)) ?_ | refine callE_X (f31_ok _ (by omega)) ?_); simp -implicitDefEqProofs only [hF, hL1, ek, hok, twoD_len, List.length_append, hn, go_sem, simprocAttr])) <;> try (simp (disch := omega) only [wrW]; try simp -implicitDefEqProofs only [hF, hL1, ek, hok, twoD_len, List.length_append, hn, go_sem, simprocAttr]))
                  | with_reducible refine And.intro (by first | omega | (simp only [hgW]; omega)) ?_
                  | (exfalso; omega)
                all_goals
                  unfold wrTag wrFull
                  first | (rw [if_pos (by omega), if_pos (by omega)]; rfl) | (rw [if_neg (by omega), if_neg (by omega)]; rfl)
      · have hstep := yearD_no hleap
        have hl2 := hleap
        rw [pre12, if_neg hleap] at hp12
        unfold leapP at hleap
        repeat' first
          | with_reducible (first | refine AWP.seqA ?_ | refine AWP.seqB ?_ | refine AWP.block ?_ | refine AWP.skipN ?_ | refine AWP.skip ?_ | refine AWP.exit ?_ | refine AWP.ret ?_ | refine LoopN.succ ?_ | refine thenS_n ?_ | refine thenS_x ?_ | refine thenS_r ?_ | refine blockS_n ?_ | refine blockS_r ?_ | refine blockS_x ?_ | refine blockS_y (by decide) ?_)
          | ((with_reducible refine hK _ ?_); clear hK K) | ((with_reducible refine hKt ?_); clear hKt hKf Kt Kf) | ((with_reducible refine hKf ?_); clear hKt hKf Kt Kf) | ((with_reducible refine condP_split (fun hg => hKt ?_) (fun hg => hKf ?_)) <;> clear hKt hKf Kt Kf <;> (try simp only [hgW] at hg) <;> try (exfalso; omega))
          | ((first | (with_reducible refine guardP_split (fun hg => ?_) (fun hg => ?_)) <;> simp -implicitDefEqProofs only [hg, hn, go_sem, simprocAttr] <;> (try simp only [hgW] at hg) | ((first | with_reducible (first | refine AWP.seqRB k32_VsCDay2 fun K hK => ?_ | refine AWP.lastRB k32_VsCDay2 fun K hK => ?_ | refine AWP.seqD (id := 15) k32_VsCDay2 a32_15_VsCDay2 o32_15_VsCDay2 mixed (by kernel_rfl) (by kernel_rfl) fun K hK => ?_ | refine AWP.lastD (id := 15) k32_VsCDay2 a32_15_VsCDay2 o32_15_VsCDay2 mixed (by kernel_rfl) (by kernel_rfl) fun K hK => ?_ | refine AWP.seqC fun Kt Kf hKt hKf => ?_ | refine AWP.condK fun Kt Kf hKt hKf => ?_ | refine retSB_ret [] ?_ | refine retSB_end [] ?_)); simp -implicitDefEqProofs only [hn, go_sem, simprocAttr])) <;> try (simp (disch := omega) only [wrW]; try simp -implicitDefEqProofs only [hn, go_sem, simprocAttr]))
          | with_reducible refine And.intro (by first | omega | (simp only [hgW]; omega)) ?_
          | (exfalso; omega)
        all_goals
          refine AWP.loopX [0, 1, 2, 5, 6, 8] [] (fun k : Nat => St.mk (lk [(0, .int .i64 (day - yearD (1970 + y) - pre (mdL (1970 + y)) k)), (1, .int .i64 s), (2, .ptr 1000000 0), (5, .ptr 5 0), (6, .int .i64 (1970 + y)), (8, .int .i64 (k + 1))]) (lkB [(1000000, [.fn 31 []]), (5, [.int .u8 0, .sl none true 1 []])]) (hasS []) (hasS []) (hasN []) (lkR []))
            (fun k => k + 1 ≤ m) (fun k => m - k) 0 ?_ (by omega) ?_
          · simp -implicitDefEqProofs only [hn, go_sem, simprocAttr]
            simp [pre]
          · intro k hk
            have hk1 := pre_mono (fun i => (mdL_bd (1970 + y) i).1) (show k ≤ m - 1 by omega)
            have hkb := mdL_bd (1970 + y) k
            have hkp : pre (mdL (1970 + y)) (k + 1) = pre (mdL (1970 + y)) k + (mdL (1970 + y)).getD k default := rfl
            have hk0 : 0 ≤ pre (mdL (1970 + y)) k := pre_mono (fun i => (mdL_bd (1970 + y) i).1) (show 0 ≤ k by omega)
            have ek : ((k : Int) + 1 - 1).toNat = k := by omega
            have ek2 : ((k + 1 : Nat) : Int) = (k : Int) + 1 := by omega
            by_cases hk1e : k = 1
            · have hv : L.getD k default = (mdL (1970 + y)).getD k default := by rw [mdL_no (1970 + y) k (.inl hl2), hL]
              have hk12 : (k : Int) + 1 = 2 := by omega
              by_cases hkm : k + 1 < m
              · have hk2 := pre_mono (fun i => (mdL_bd (1970 + y) i).1) (show k + 1 ≤ m - 1 by omega)
                repeat' first
                  | with_reducible (first | refine AWP.seqA ?_ | refine AWP.seqB ?_ | refine AWP.block ?_ | refine AWP.skipN ?_ | refine AWP.skip ?_ | refine AWP.exit ?_ | refine AWP.ret ?_ | refine LoopN.succ ?_ | refine thenS_n ?_ | refine thenS_x ?_ | refine thenS_r ?_ | refine blockS_n ?_ | refine blockS_r ?_ | refine blockS_x ?_ | refine blockS_y (by decide) ?_)
                  | ((with_reducible refine hK _ ?_); clear hK K) | ((with_reducible refine hKt ?_); clear hKt hKf Kt Kf) | ((with_reducible refine hKf ?_); clear hKt hKf Kt Kf) | ((with_reducible refine condP_split (fun hg => hKt ?_) (fun hg => hKf ?_)) <;> clear hKt hKf Kt Kf <;> (try simp only [hgW] at hg) <;> try (exfalso; omega))
                  | ((first | (with_reducible refine guardP_split (fun hg => ?_) (fun hg => ?_)) <;> simp -implicitDefEqProofs only [hg, hF, hL1, ek, hn, go_sem, simprocAttr] <;> (try simp only [hgW] at hg) | ((first | with_reducible (first | refine AWP.seqRB k32_VsCDay2 fun K hK => ?_ | refine AWP.lastRB k32_VsCDay2 fun K hK => ?_ | refine AWP.seqD (id := 15) k32_VsCDay2 a32_15_VsCDay2 o32_15_VsCDay2 mixed (by kernel_rfl) (by kernel_rfl) fun K hK => ?_ | refine AWP.lastD (id := 15) k32_VsCDay2 a32_15_VsCDay2 o32_15_VsCDay2 mixed (by kernel_rfl) (by kernel_rfl) fun K hK => ?_ | refine AWP.seqC fun Kt Kf hKt hKf => ?_ | refine AWP.condK fun Kt Kf hKt hKf => ?_ | refine retSB_ret [] ?_ | refine retSB_end [] ?_)); simp -implicitDefEqProofs only [hF, hL1, ek, hn, go_sem, simprocAttr])) <;> try (simp (disch := omega) only [wrW]; try simp -implicitDefEqProofs only [hF, hL1, ek, hn, go_sem, simprocAttr]))
                  | with_reducible refine And.intro (by first | omega | (simp only [hgW]; omega)) ?_
                  | (exfalso; omega)
                all_goals
                  refine ⟨k + 1, ?_, by omega, by omega⟩
                  simp -implicitDefEqProofs only [hn, go_sem, simprocAttr]
                  first | rw [hkp, hv, ← Int.sub_sub, ek2] | rw [hkp, ← hv, ← Int.sub_sub, ek2]
              · obtain rfl : m = k + 1 := by omega
                simp only [Nat.add_sub_cancel] at hd hday hb hp12 hp0 hp366 hk1
                have hdd : day - yearD (1970 + y) - pre (mdL (1970 + y)) k = d := by omega
                rw [hdd]
                repeat' first
                  | with_reducible (first | refine AWP.seqA ?_ | refine AWP.seqB ?_ | refine AWP.block ?_ | refine AWP.skipN ?_ | refine AWP.skip ?_ | refine AWP.exit ?_ | refine AWP.ret ?_ | refine LoopN.succ ?_ | refine thenS_n ?_ | refine thenS_x ?_ | refine thenS_r ?_ | refine blockS_n ?_ | refine blockS_r ?_ | refine blockS_x ?_ | refine blockS_y (by decide) ?_)
                  | ((with_reducible refine hK _ ?_); clear hK K) | ((with_reducible refine hKt ?_); clear hKt hKf Kt Kf) | ((with_reducible refine hKf ?_); clear hKt hKf Kt Kf) | ((with_reducible refine condP_split (fun hg => hKt ?_) (fun hg => hKf ?_)) <;> clear hKt hKf Kt Kf <;> (try simp only [hgW] at hg) <;> try (exfalso; omega))
                  | ((first | (with_reducible refine guardP_split (fun hg => ?_) (fun hg => ?_)) <;> simp -implicitDefEqProofs only [hg, hF, hL1, ek, hok, twoD_len, List.length_append, hn, go_sem, simprocAttr] <;> (try simp only [hgW] at hg) | ((first | with_reducible (first | refine AWP.seqRB k32_VsCDay2 fun K hK => ?_ | refine AWP.lastRB k32_VsCDay2 fun K hK => ?_ | refine AWP.seqD (id := 15) k32_VsCDay2 a32_15_VsCDay2 o32_15_VsCDay2 mixed (by kernel_rfl) (by kernel_rfl) fun K hK => ?_ | refine AWP.lastD (id := 15) k32_VsCDay2 a32_15_VsCDay2 o32_15_VsCDay2 mixed (by kernel_rfl) (by kernel_rfl) fun K hK => ?_ | refine AWP.seqC fun Kt Kf hKt hKf => ?_ | refine AWP.condK fun Kt Kf hKt hKf => ?_ | refine retSB_ret [] ?_ | refine retSB_end [] ?_) | refine callE_P (f31_ok _ (by omega)) ?_ | refine callP_intro2 (f31_ok _ (by omega)) ?_ | refine callE_X (f31_ok _ (by omega)) ?_); simp -implicitDefEqProofs only [hF, hL1, ek, hok, twoD_len, List.length_append, hn, go_sem, simprocAttr])) <;> try (simp (disch := omega) only [wrW]; try simp -implicitDefEqProofs only [hF, hL1, ek, hok, twoD_len, List.length_append, hn, go_sem, simprocAttr]))
                  | with_reducible refine And.intro (by first | omega | (simp only [hgW]; omega)) ?_
                  | (exfalso; omega)
                all_goals
                  unfold wrTag wrFull
                  first | (rw [if_pos (by omega), if_pos (by omega)]; rfl) | (rw [if_neg (by omega), if_neg (by omega)]; rfl)
            · have hv : L.getD k default = (mdL (1970 + y)).getD k default := by rw [mdL_no (1970 + y) k (.inr hk1e), hL]
              have hk12 : ¬ (k : Int) + 1 = 2 := by omega
              by_cases hkm : k + 1 < m
              · have hk2 := pre_mono (fun i => (mdL_bd (1970 + y) i).1) (show k + 1 ≤ m - 1 by omega)
                repeat' first
                  | with_reducible (first | refine AWP.seqA ?_ | refine AWP.seqB ?_ | refine AWP.block ?_ | refine AWP.skipN ?_ | refine AWP.skip ?_ | refine AWP.exit ?_ | refine AWP.ret ?_ | refine LoopN.succ ?_ | refine thenS_n ?_ | refine thenS_x ?_ | refine thenS_r ?_ | refine blockS_n ?_ | refine blockS_r ?_ | refine blockS_x ?_ | refine blockS_y (by decide) ?_)
                  | ((with_reducible refine hK _ ?_); clear hK K) | ((with_reducible refine hKt ?_); clear hKt hKf Kt Kf) | ((with_reducible refine hKf ?_); clear hKt hKf Kt Kf) | ((with_reducible refine condP_split (fun hg => hKt ?_) (fun hg => hKf ?_)) <;> clear hKt hKf Kt Kf <;> (try simp only [hgW] at hg) <;> try (exfalso; omega))
                  | ((first | (with_reducible refine guardP_split (fun hg => ?_) (fun hg => ?_)) <;> simp -implicitDefEqProofs only [hg, hF, hL1, ek, hn, go_sem, simprocAttr] <;> (try simp only [hgW] at hg) | ((first | with_reducible (first | refine AWP.seqRB k32_VsCDay2 fun K hK => ?_ | refine AWP.lastRB k32_VsCDay2 fun K hK => ?_ | refine AWP.seqD (id := 15) k32_VsCDay2 a32_15_VsCDay2 o32_15_VsCDay2 mixed (by kernel_rfl) (by kernel_rfl) fun K hK => ?_ | refine AWP.lastD (id := 15) k32_VsCDay2 a32_15_VsCDay2 o32_15_VsCDay2 mixed (by kernel_rfl) (by kernel_rfl) fun K hK => ?_ | refine AWP.seqC fun Kt Kf hKt hKf => ?_ | refine AWP.condK fun Kt Kf hKt hKf => ?_ | refine retSB_ret [] ?_ | refine retSB_end [] ?_)); simp -implicitDefEqProofs only [hF, hL1, ek, hn, go_sem, simprocAttr])) <;> try (simp (disch := omega) only [wrW]; try simp -implicitDefEqProofs only [hF, hL1, ek, hn, go_sem, simprocAttr]))
                  | with_reducible refine And.intro (by first | omega | (simp only [hgW]; omega)) ?_
                  | (exfalso; omega)
                all_goals
                  refine ⟨k + 1, ?_, by omega, by omega⟩
                  simp -implicitDefEqProofs only [hn, go_sem, simprocAttr]
                  first | rw [hkp, hv, ← Int.sub_sub, ek2] | rw [hkp, ← hv, ← Int.sub_sub, ek2]
              · obtain rfl : m = k + 1 := by omega
                simp only [Nat.add_sub_cancel] at hd hday hb hp12 hp0 hp366 hk1
                have hdd : day - yearD (1970 + y) - pre (mdL (1970 + y)) k = d := by omega
                rw [hdd]
                repeat' first
                  | with_reducible (first | refine AWP.seqA ?_ | refine AWP.seqB ?_ | refine AWP.block ?_ | refine AWP.skipN ?_ | refine AWP.skip ?_ | refine AWP.exit ?_ | refine AWP.ret ?_ | refine LoopN.succ ?_ | refine thenS_n ?_ | refine thenS_x ?_ | refine thenS_r ?_ | refine blockS_n ?_ | refine blockS_r ?_ | refine blockS_x ?_ | refine blockS_y (by decide) ?_)
                  | ((with_reducible refine hK _ ?_); clear hK K) | ((with_reducible refine hKt ?_); clear hKt hKf Kt Kf) | ((with_reducible refine hKf ?_); clear hKt hKf Kt Kf) | ((with_reducible refine condP_split (fun hg => hKt ?_) (fun hg => hKf ?_)) <;> clear hKt hKf Kt Kf <;> (try simp only [hgW] at hg) <;> try (exfalso; omega))
                  | ((first | (with_reducible refine guardP_split (fun hg => ?_) (fun hg => ?_)) <;> simp -implicitDefEqProofs only [hg, hF, hL1, ek, hok, twoD_len, List.length_append, hn, go_sem, simprocAttr] <;> (try simp only [hgW] at hg) | ((first | with_reducible (first | refine AWP.seqRB k32_VsCDay2 fun K hK => ?_ | refine AWP.lastRB k32_VsCDay2 fun K hK => ?_ | refine AWP.seqD (id := 15) k32_VsCDay2 a32_15_VsCDay2 o32_15_VsCDay2 mixed (by kernel_rfl) (by kernel_rfl) fun K hK => ?_ | refine AWP.lastD (id := 15) k32_VsCDay2 a32_15_VsCDay2 o32_15_VsCDay2 mixed (by kernel_rfl) (by kernel_rfl) fun K hK => ?_ | refine AWP.seqC fun Kt Kf hKt hKf => ?_ | refine AWP.condK fun Kt Kf hKt hKf => ?_ | refine retSB_ret [] ?_ | refine retSB_end [] ?_) | refine callE_P (f31_ok _ (by omega)) ?_ | refine callP_intro2 (f31_ok _ (by omega)) ?_ | refine callE_X (f31_ok _ (by omega)) ?_); simp -implicitDefEqProofs only [hF, hL1, ek, hok, twoD_len, List.length_append, hn, go_sem, simprocAttr])) <;> try (simp (disch := omega) only [wrW]; try simp -implicitDefEqProofs only [hF, hL1, ek, hok, twoD_len, List.length_append, hn, go_sem, simprocAttr]))
                  | with_reducible refine And.intro (by first | omega | (simp only [hgW]; omega)) ?_
                  | (exfalso; omega)
                all_goals
                  unfold wrTag wrFull
                  first | (rw [if_pos (by omega), if_pos (by omega)]; rfl) | (rw [if_neg (by omega), if_neg (by omega)]; rfl)
end Go.Proofs.Ytedjcbdhafmjiaa
