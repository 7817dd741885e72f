/- What the document's Texts comes to. -/
import Derived.Test.YtijcpdgfbboamaaDoorVsDOk
import Derived.Test.YtijcpdgfbboamaaDoorVsCRef3
open Go Go.VS
namespace Go.Proofs.YtijcpdgfbboamaaDoor
set_option linter.unusedVariables false
set_option linter.unusedSimpArgs false
set_option maxRecDepth 20000
set_option maxHeartbeats 4000000
def k42_VsDTexts : List Nat := [0,1,2,3,6,11,20]
attribute [go_sem] k42_VsDTexts
theorem f42_ok (i : CI) (hi : i.ks.length ≤ 10000) : CallsP Tryd.prog 42 [i.av] (.bool (textsS i)) := by
  obtain ⟨xk, xn, xbn, xb, xkn, xks⟩ := i
  simp only [CI.ks] at hi
  rw [av_mk']
  by_cases hk : xk = 6
  · subst hk
    have hts : textsS (.mk 6 xn xbn xb xkn xks) = keysFrom xks 0 := by simp [textsS, CI.k, CI.ks]
    rw [hts]
    obtain ⟨R, hR⟩ : ∃ R, keysFrom xks 0 = R := ⟨_, rfl⟩
    rw [hR]
    refine CallsP.intro Tryd.func42 rfl (by show 1 ≤ 21; decide) ?_
    rintro X hX
    have hn : X.n = 21 := hX
    unfold Tryd.f42
    dsimp only
    rw [entry1]
    repeat' first
     | with_reducible refine Rl.go (by constructor <;> decide) ?_
     | ((with_reducible first | refine hK _ ?_ | refine hK.1 ?_ | refine hK.2 ?_); clear hK K)
     | ((with_reducible refine condS hK (fun hg => ?_) fun hg => ?_) <;> clear hK K <;> (try simp only [hgW] at hg) <;> try (exfalso; omega))
     | ((first | ((with_reducible first | refine Rk.go k42_VsDTexts (by constructor) ?_); intro K hK) | with_reducible refine Rr.go [] (by constructor) ?_ | (with_reducible refine guardP_split (fun hg => ?_) fun hg => ?_) <;> (try simp only [hg]) <;> (try simp only [hgW] at hg)) <;> simp -implicitDefEqProofs only [Int.cast_ofNat_Int, hn, go_sem, simprocAttr] <;> try (simp (disch := omega) only [wrW]; try simp -implicitDefEqProofs only [Int.cast_ofNat_Int, hn, go_sem, simprocAttr]))
     | with_reducible refine And.intro (by first | omega | (simp only [hgW]; omega)) ?_
     | (exfalso; omega)
    refine AWP.loopX [1, 2, 3] [] (fun i : Nat => St.mk (lk [(1, .ptr 1 0), (2, .bool false), (3, .int .i64 (i : Int))])
        (lkB [(1, [.int .u8 6, .int .u64 (xn : Int), .sl none xbn 1 (xb.map u8), .sl none xkn 4 (xks.map CI.av)])]) (hasS []) (hasS []) (hasN []) (lkR []))
      (fun i => i ≤ xks.length + 1 ∧ i % 2 = 0 ∧ keysFrom xks i = R) (fun i => xks.length + 2 - i) 0 ?_ ⟨by omega, rfl, hR⟩ ?_
    · simp -implicitDefEqProofs only [Int.cast_ofNat_Int, hn, go_sem, simprocAttr]
      try rfl
    rintro i ⟨h1, h0, h2⟩
    by_cases hi : xks.length ≤ i
    · rw [keysFrom_end _ _ hi] at h2
      subst h2
      repeat' first
       | with_reducible refine Rl.go (by constructor <;> decide) ?_
       | ((with_reducible first | refine hK _ ?_ | refine hK.1 ?_ | refine hK.2 ?_); clear hK K)
       | ((with_reducible refine condS hK (fun hg => ?_) fun hg => ?_) <;> clear hK K <;> (try simp only [hgW] at hg) <;> try (exfalso; omega))
       | ((first | ((with_reducible first | refine Rk.go k42_VsDTexts (by constructor) ?_); intro K hK) | with_reducible refine Rr.go [] (by constructor) ?_ | (with_reducible refine guardP_split (fun hg => ?_) fun hg => ?_) <;> (try simp only [hg]) <;> (try simp only [hgW] at hg)) <;> simp -implicitDefEqProofs only [Int.cast_ofNat_Int, hn, go_sem, simprocAttr] <;> try (simp (disch := omega) only [wrW]; try simp -implicitDefEqProofs only [Int.cast_ofNat_Int, hn, go_sem, simprocAttr]))
       | with_reducible refine And.intro (by first | omega | (simp only [hgW]; omega)) ?_
       | (exfalso; omega)
    obtain ⟨y, hy⟩ : ∃ y, xks.getD i default = y := ⟨_, rfl⟩
    rw [keysFrom_step _ _ (by omega), hy] at h2
    obtain ⟨yk, yn, ybn, yb, ykn, yks⟩ := y
    simp only [CI.k] at h2
    have hev : ¬ i % 2 = 1 := by omega
    have e2 : (i : Int) + 2 = ((i + 2 : Nat) : Int) := by omega
    simp only [hev, decide_false, Bool.false_or] at h2
    by_cases h4 : yk = 4
    · subst h4
      simp only [decide_true, Bool.true_and] at h2
      have h3 : keysFrom xks (i + 2) = R := by
        by_cases hl : xks.length ≤ i + 1
        · rw [keysFrom_end _ _ hl] at h2
          rw [keysFrom_end _ _ (by omega)]; exact h2
        · rw [keysFrom_step _ _ (by omega)] at h2
          simpa [show (i + 1) % 2 = 1 by omega] using h2
      repeat' first
       | with_reducible refine Rl.go (by constructor <;> decide) ?_
       | ((with_reducible first | refine hK _ ?_ | refine hK.1 ?_ | refine hK.2 ?_); clear hK K)
       | ((with_reducible refine condS hK (fun hg => ?_) fun hg => ?_) <;> clear hK K <;> (try simp only [hgW] at hg) <;> try (exfalso; omega))
       | ((first | ((with_reducible first | refine Rk.go k42_VsDTexts (by constructor) ?_); intro K hK) | with_reducible refine Rr.go [] (by constructor) ?_ | (with_reducible refine guardP_split (fun hg => ?_) fun hg => ?_) <;> (try simp only [hg]) <;> (try simp only [hgW] at hg)) <;> simp -implicitDefEqProofs only [hy, av_mk', Int.cast_ofNat_Int, hn, go_sem, simprocAttr] <;> try (simp (disch := omega) only [wrW]; try simp -implicitDefEqProofs only [hy, av_mk', Int.cast_ofNat_Int, hn, go_sem, simprocAttr]))
       | with_reducible refine And.intro (by first | omega | (simp only [hgW]; omega)) ?_
       | (exfalso; omega)
      refine ⟨i + 2, ?_, ⟨by omega, by omega, h3⟩, by omega⟩
      rw [e2]
      simp -implicitDefEqProofs only [Int.cast_ofNat_Int, hn, go_sem, simprocAttr]
      try rfl
    · have h4' : ¬ (yk : Int) = 4 := by omega
      simp only [h4, decide_false, Bool.false_and] at h2
      subst h2
      repeat' first
       | with_reducible refine Rl.go (by constructor <;> decide) ?_
       | ((with_reducible first | refine hK _ ?_ | refine hK.1 ?_ | refine hK.2 ?_); clear hK K)
       | ((with_reducible refine condS hK (fun hg => ?_) fun hg => ?_) <;> clear hK K <;> (try simp only [hgW] at hg) <;> try (exfalso; omega))
       | ((first | ((with_reducible first | refine Rk.go k42_VsDTexts (by constructor) ?_); intro K hK) | with_reducible refine Rr.go [] (by constructor) ?_ | (with_reducible refine guardP_split (fun hg => ?_) fun hg => ?_) <;> (try simp only [hg]) <;> (try simp only [hgW] at hg)) <;> simp -implicitDefEqProofs only [hy, h4', av_mk', Int.cast_ofNat_Int, hn, go_sem, simprocAttr] <;> try (simp (disch := omega) only [wrW]; try simp -implicitDefEqProofs only [hy, h4', av_mk', Int.cast_ofNat_Int, hn, go_sem, simprocAttr]))
       | with_reducible refine And.intro (by first | omega | (simp only [hgW]; omega)) ?_
       | (exfalso; omega)
  · have hts : textsS (.mk xk xn xbn xb xkn xks) = false := by simp [textsS, CI.k, hk]
    rw [hts]
    have hk2 : ¬ (xk : Int) = 6 := by omega
    refine CallsP.intro Tryd.func42 rfl (by show 1 ≤ 21; decide) ?_
    rintro X hX
    have hn : X.n = 21 := hX
    unfold Tryd.f42
    dsimp only
    rw [entry1]
    repeat' first
     | with_reducible refine Rl.go (by constructor <;> decide) ?_
     | ((with_reducible first | refine hK _ ?_ | refine hK.1 ?_ | refine hK.2 ?_); clear hK K)
     | ((with_reducible refine condS hK (fun hg => ?_) fun hg => ?_) <;> clear hK K <;> (try simp only [hgW] at hg) <;> try (exfalso; omega))
     | ((first | ((with_reducible first | refine Rk.go k42_VsDTexts (by constructor) ?_); intro K hK) | with_reducible refine Rr.go [] (by constructor) ?_ | (with_reducible refine guardP_split (fun hg => ?_) fun hg => ?_) <;> (try simp only [hg]) <;> (try simp only [hgW] at hg)) <;> simp -implicitDefEqProofs only [hk2, Int.cast_ofNat_Int, hn, go_sem, simprocAttr] <;> try (simp (disch := omega) only [wrW]; try simp -implicitDefEqProofs only [hk2, Int.cast_ofNat_Int, hn, go_sem, simprocAttr]))
     | with_reducible refine And.intro (by first | omega | (simp only [hgW]; omega)) ?_
     | (exfalso; omega)
end Go.Proofs.YtijcpdgfbboamaaDoor
