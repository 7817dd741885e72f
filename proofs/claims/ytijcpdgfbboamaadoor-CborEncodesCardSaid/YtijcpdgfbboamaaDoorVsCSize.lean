/- How large an item is, as far as is gone to; an item that is small fits. -/
import Derived.Test.YtijcpdgfbboamaaDoorVsCMadeF
import Derived.Test.YtijcpdgfbboamaaDoorVsCRef3
open Go Go.VS
namespace Go.Proofs.YtijcpdgfbboamaaDoor
set_option linter.unusedVariables false
set_option linter.unusedSimpArgs false
set_option maxRecDepth 20000
set_option maxHeartbeats 4000000
def sizeL (f : CI → Nat) : List CI → Nat → Nat
  | [], n => n
  | y :: ys, n => if 20000 < n + f y then n + f y else sizeL f ys (n + f y)
def sizeS : Nat → CI → Nat
  | 0, _ => 1048576
  | d + 1, x => sizeL (sizeS d) x.ks (1 + x.b.length)
theorem sizeL_ge (f : CI → Nat) : ∀ (ks : List CI) (n : Nat), n ≤ sizeL f ks n
  | [], n => Nat.le_refl _
  | y :: ys, n => by
    unfold sizeL
    split
    · omega
    · exact Nat.le_trans (by omega) (sizeL_ge f ys _)
theorem size_pos : ∀ (d : Nat) (x : CI), 1 ≤ sizeS d x
  | 0, x => by show 1 ≤ 1048576; decide
  | d + 1, x => Nat.le_trans (by omega) (sizeL_ge _ _ _)
theorem sizeL_small (f : CI → Nat) (hf : ∀ y, 1 ≤ f y) : ∀ (ks : List CI) (n : Nat), sizeL f ks n ≤ 15000 → n + ks.length ≤ 15000 ∧ ∀ y ∈ ks, f y ≤ 15000
  | [], n, h => ⟨h, fun y hy => by cases hy⟩
  | y :: ys, n, h => by
    unfold sizeL at h
    split at h
    · omega
    · have h1 := sizeL_small f hf ys _ h
      have h2 := hf y
      have h3 := sizeL_ge f ys (n + f y)
      refine ⟨by simp only [List.length_cons]; omega, fun z hz => ?_⟩
      rcases List.mem_cons.1 hz with rfl | hz
      · omega
      · exact h1.2 z hz
theorem size_fit : ∀ (e d : Nat) (x : CI), PlanD (e + d + 1) x → sizeS (e + d + 1) x ≤ 15000 → Fit e x
  | e, d, x, hp, h => by
    obtain ⟨⟨h1, h2, h3, h4, h5⟩, hq⟩ := hp
    have hs := sizeL_small (sizeS (e + d)) (size_pos _) x.ks _ h
    have hL : Lim x := ⟨h1, h2, by omega, by omega, h5⟩
    cases e with
    | zero => exact hL
    | succ e => exact ⟨hL, fun y hy => size_fit e d y (by rw [show e + d + 1 = e + 1 + d by omega]; exact hq y hy) (by rw [show e + d + 1 = e + 1 + d by omega]; exact hs.2 y hy)⟩
theorem fit_plan : ∀ (d : Nat) (x : CI), Fit d x → PlanD d x
  | 0, x, h => trivial
  | d + 1, x, h => by
    obtain ⟨⟨h1, h2, h3, h4, h5⟩, hq⟩ := h
    exact ⟨⟨h1, h2, by omega, by omega, h5⟩, fun y hy => fit_plan d y (hq y hy)⟩
theorem sizeL_le (f : CI → Nat) (B : Nat) : ∀ (ks : List CI) (n : Nat), n ≤ 140737488371233 → (∀ y ∈ ks, f y ≤ B) → sizeL f ks n ≤ 140737488371233 + B
  | [], n, h, _ => by unfold sizeL; omega
  | y :: ys, n, h, hB => by
    have h1 := hB y (by simp)
    unfold sizeL
    split
    · omega
    · exact sizeL_le f B ys _ (by omega) fun z hz => hB z (by simp [hz])
theorem size_le : ∀ (d : Nat) (x : CI), PlanD d x → sizeS d x ≤ 1048576 + 140737488371233 * d
  | 0, x, _ => Nat.le_refl _
  | d + 1, x, hp => by
    have := sizeL_le (sizeS d) (1048576 + 140737488371233 * d) x.ks (1 + x.b.length) (by have := hp.1.2.2.1; omega) fun y hy => size_le d y (hp.2 y hy)
    show sizeL _ _ _ ≤ _
    omega
def k28_VsCSize : List Nat := [0,1,2,4,5,7,9,15,16,17,18,28]
attribute [go_sem] k28_VsCSize
theorem f28_ok : ∀ (d : Nat) (hd : d ≤ 60) (x : CI) (hp : PlanD d x), CallsP Tryd.prog 28 [x.av, .int .i64 (d : Int)] (.int .i64 (sizeS d x : Int))
  | 0, hd, x, hp => by
    obtain ⟨xk, xn, xbn, xb, xkn, xks⟩ := x
    rw [av_mk']
    refine CallsP.intro Tryd.func28 rfl (by show 2 ≤ 32; decide) ?_
    rintro X hX
    have hn : X.n = 32 := hX
    unfold Tryd.f28
    dsimp only
    rw [entry2]
    repeat' first
      | with_reducible (first | refine AWP.seqA ?_ | refine AWP.seqB ?_ | refine AWP.block ?_ | refine AWP.skipN ?_ | refine AWP.skip ?_ | refine AWP.exit ?_ | refine AWP.ret ?_ | refine LoopN.succ ?_ | refine thenS_n ?_ | refine thenS_x ?_ | refine thenS_r ?_ | refine blockS_n ?_ | refine blockS_r ?_ | refine blockS_x ?_ | refine blockS_y (by decide) ?_)
      | ((with_reducible refine hK _ ?_); clear hK K) | ((with_reducible refine hKt ?_); clear hKt hKf Kt Kf) | ((with_reducible refine hKf ?_); clear hKt hKf Kt Kf) | ((with_reducible refine condP_split (fun hg => hKt ?_) (fun hg => hKf ?_)) <;> clear hKt hKf Kt Kf <;> (try simp only [hgW] at hg) <;> try (exfalso; omega))
      | ((first | (with_reducible refine guardP_split (fun hg => ?_) (fun hg => ?_)) <;> simp -implicitDefEqProofs only [hg, sizeS, Int.cast_ofNat_Int, hn, go_sem, simprocAttr] <;> (try simp only [hgW] at hg) | ((first | with_reducible (first | refine AWP.seqRB k28_VsCSize fun K hK => ?_ | refine AWP.lastRB k28_VsCSize fun K hK => ?_ | refine AWP.seqC fun Kt Kf hKt hKf => ?_ | refine AWP.condK fun Kt Kf hKt hKf => ?_ | refine retS_ret ?_ | refine retS_end ?_)); simp -implicitDefEqProofs only [sizeS, Int.cast_ofNat_Int, hn, go_sem, simprocAttr])) <;> try simp (disch := omega) only [wrW])
      | with_reducible refine And.intro (by first | omega | (simp only [hgW]; omega)) ?_
      | (exfalso; omega)
  | d + 1, hd, x, hp => by
    have ih := fun y hy => f28_ok d (by omega) y (hp.2 y hy)
    have hle := fun y hy => size_le d y (hp.2 y hy)
    obtain ⟨h1, h2, h3, h4, h5⟩ := hp.1
    have hd1 : ((d + 1 : Nat) : Int) - 1 = (d : Int) := by omega
    have hw : IntKind.i64.wrap (d : Int) = (d : Int) := Go.IntWalk.i64_in _ (by omega)
    obtain ⟨R, hR⟩ : ∃ R, sizeS (d + 1) x = R := ⟨_, rfl⟩
    rw [hR]
    unfold sizeS at hR
    obtain ⟨xk, xn, xbn, xb, xkn, xks⟩ := x
    simp only [CI.b, CI.ks] at *
    rw [av_mk']
    refine CallsP.intro Tryd.func28 rfl (by show 2 ≤ 32; decide) ?_
    rintro X hX
    have hn : X.n = 32 := hX
    unfold Tryd.f28
    dsimp only
    rw [entry2]
    repeat' first
      | with_reducible (first | refine AWP.seqA ?_ | refine AWP.seqB ?_ | refine AWP.block ?_ | refine AWP.skipN ?_ | refine AWP.skip ?_ | refine AWP.exit ?_ | refine AWP.ret ?_ | refine LoopN.succ ?_ | refine thenS_n ?_ | refine thenS_x ?_ | refine thenS_r ?_ | refine blockS_n ?_ | refine blockS_r ?_ | refine blockS_x ?_ | refine blockS_y (by decide) ?_)
      | ((with_reducible refine hK _ ?_); clear hK K) | ((with_reducible refine hKt ?_); clear hKt hKf Kt Kf) | ((with_reducible refine hKf ?_); clear hKt hKf Kt Kf) | ((with_reducible refine condP_split (fun hg => hKt ?_) (fun hg => hKf ?_)) <;> clear hKt hKf Kt Kf <;> (try simp only [hgW] at hg) <;> try (exfalso; omega))
      | ((first | (with_reducible refine guardP_split (fun hg => ?_) (fun hg => ?_)) <;> simp -implicitDefEqProofs only [hg, Int.cast_ofNat_Int, hn, go_sem, simprocAttr] <;> (try simp only [hgW] at hg) | ((first | with_reducible (first | refine AWP.seqRB k28_VsCSize fun K hK => ?_ | refine AWP.lastRB k28_VsCSize fun K hK => ?_ | refine AWP.seqC fun Kt Kf hKt hKf => ?_ | refine AWP.condK fun Kt Kf hKt hKf => ?_ | refine retS_ret ?_ | refine retS_end ?_)); simp -implicitDefEqProofs only [Int.cast_ofNat_Int, hn, go_sem, simprocAttr])) <;> try simp (disch := omega) only [wrW])
      | with_reducible refine And.intro (by first | omega | (simp only [hgW]; omega)) ?_
      | (exfalso; omega)
    refine AWP.loopX [1, 4, 5, 15, 16, 17] [2, 7] (fun x : Nat × Nat => St.mk (lk [(1, .int .i64 ((d + 1 : Nat) : Int)), (4, .int .i64 0), (5, .int .i64 (x.2 : Int)), (15, .sl none xkn 4 (xks.map CI.av)), (16, .int .i64 (xks.length : Int)), (17, .int .i64 (x.1 : Int))])
        (lkB []) (hasS []) (hasS []) (hasN []) (lkR [])) (fun x => x.1 ≤ xks.length ∧ x.2 ≤ 140737488371233 ∧ sizeL (sizeS d) (xks.drop x.1) x.2 = R) (fun x => xks.length - x.1) (0, 1 + xb.length) ?_ ⟨Nat.zero_le _, by simp only; omega, hR⟩ ?_
    · have e1 : (1 : Int) + (xb.length : Int) = ((1 + xb.length : Nat) : Int) := by omega
      rw [e1]
      simp -implicitDefEqProofs only [Int.cast_ofNat_Int, hn, go_sem, simprocAttr]
      try rfl
    rintro ⟨k, n⟩ ⟨hk, hn2, hf⟩
    simp only at hk hn2 hf
    by_cases hkn : k = xks.length
    · subst hkn
      rw [List.drop_length] at hf
      unfold sizeL at hf
      subst hf
      repeat' first
        | with_reducible (first | refine AWP.seqA ?_ | refine AWP.seqB ?_ | refine AWP.block ?_ | refine AWP.skipN ?_ | refine AWP.skip ?_ | refine AWP.exit ?_ | refine AWP.ret ?_ | refine LoopN.succ ?_ | refine thenS_n ?_ | refine thenS_x ?_ | refine thenS_r ?_ | refine blockS_n ?_ | refine blockS_r ?_ | refine blockS_x ?_ | refine blockS_y (by decide) ?_)
        | ((with_reducible refine hK _ ?_); clear hK K) | ((with_reducible refine hKt ?_); clear hKt hKf Kt Kf) | ((with_reducible refine hKf ?_); clear hKt hKf Kt Kf) | ((with_reducible refine condP_split (fun hg => hKt ?_) (fun hg => hKf ?_)) <;> clear hKt hKf Kt Kf <;> (try simp only [hgW] at hg) <;> try (exfalso; omega))
        | ((first | (with_reducible refine guardP_split (fun hg => ?_) (fun hg => ?_)) <;> simp -implicitDefEqProofs only [hg, Int.cast_ofNat_Int, hn, go_sem, simprocAttr] <;> (try simp only [hgW] at hg) | ((first | with_reducible (first | refine AWP.seqRB k28_VsCSize fun K hK => ?_ | refine AWP.lastRB k28_VsCSize fun K hK => ?_ | refine AWP.seqC fun Kt Kf hKt hKf => ?_ | refine AWP.condK fun Kt Kf hKt hKf => ?_ | refine retS_ret ?_ | refine retS_end ?_)); simp -implicitDefEqProofs only [Int.cast_ofNat_Int, hn, go_sem, simprocAttr])) <;> try simp (disch := omega) only [wrW])
        | with_reducible refine And.intro (by first | omega | (simp only [hgW]; omega)) ?_
        | (exfalso; omega)
    obtain ⟨y, hy⟩ : ∃ y, xks.getD k default = y := ⟨_, rfl⟩
    have hlt : k < xks.length := by omega
    have hy' : xks[k]? = some y := by
      rw [← hy, List.getD_eq_getElem?_getD, List.getElem?_eq_getElem hlt]; rfl
    have hdr : xks.drop k = y :: xks.drop (k + 1) := by
      obtain ⟨hlt2, h10⟩ := List.getElem?_eq_some_iff.1 hy'
      rw [List.drop_eq_getElem_cons hlt2, h10]
    have c28 := ih y (List.mem_of_getElem? hy')
    have hb := hle y (List.mem_of_getElem? hy')
    rw [hdr] at hf
    unfold sizeL at hf
    have e2 : (k : Int) + 1 = ((k + 1 : Nat) : Int) := by omega
    generalize sizeS d y = z at *
    have e3 : (n : Int) + (z : Int) = ((n + z : Nat) : Int) := by omega
    have hz2 : n + z ≤ 9223372036854775807 := by omega
    obtain ⟨yk, yn, ybn, yb, ykn, yks⟩ := y
    simp only [av_mk'] at c28
    by_cases hbig : 20000 < n + z
    · rw [if_pos hbig] at hf
      subst hf
      repeat' first
        | with_reducible (first | refine AWP.seqA ?_ | refine AWP.seqB ?_ | refine AWP.block ?_ | refine AWP.skipN ?_ | refine AWP.skip ?_ | refine AWP.exit ?_ | refine AWP.ret ?_ | refine LoopN.succ ?_ | refine thenS_n ?_ | refine thenS_x ?_ | refine thenS_r ?_ | refine blockS_n ?_ | refine blockS_r ?_ | refine blockS_x ?_ | refine blockS_y (by decide) ?_)
        | ((with_reducible refine hK _ ?_); clear hK K) | ((with_reducible refine hKt ?_); clear hKt hKf Kt Kf) | ((with_reducible refine hKf ?_); clear hKt hKf Kt Kf) | ((with_reducible refine condP_split (fun hg => hKt ?_) (fun hg => hKf ?_)) <;> clear hKt hKf Kt Kf <;> (try simp only [hgW] at hg) <;> try (exfalso; omega))
        | ((first | (with_reducible refine guardP_split (fun hg => ?_) (fun hg => ?_)) <;> simp -implicitDefEqProofs only [hg, hy, av_mk', hd1, hw, e3, Int.cast_ofNat_Int, hn, go_sem, simprocAttr] <;> (try simp only [hgW] at hg) | ((first | with_reducible (first | refine AWP.seqRB k28_VsCSize fun K hK => ?_ | refine AWP.lastRB k28_VsCSize fun K hK => ?_ | refine AWP.seqC fun Kt Kf hKt hKf => ?_ | refine AWP.condK fun Kt Kf hKt hKf => ?_ | refine retS_ret ?_ | refine retS_end ?_) | refine callE_P (c28) ?_ | refine callP_intro2 (c28) ?_ | refine callE_X (c28) ?_); simp -implicitDefEqProofs only [hy, av_mk', hd1, hw, e3, Int.cast_ofNat_Int, hn, go_sem, simprocAttr])) <;> try simp (disch := omega) only [wrW])
        | with_reducible refine And.intro (by first | omega | (simp only [hgW]; omega)) ?_
        | (exfalso; omega)
    · rw [if_neg hbig] at hf
      repeat' first
        | with_reducible (first | refine AWP.seqA ?_ | refine AWP.seqB ?_ | refine AWP.block ?_ | refine AWP.skipN ?_ | refine AWP.skip ?_ | refine AWP.exit ?_ | refine AWP.ret ?_ | refine LoopN.succ ?_ | refine thenS_n ?_ | refine thenS_x ?_ | refine thenS_r ?_ | refine blockS_n ?_ | refine blockS_r ?_ | refine blockS_x ?_ | refine blockS_y (by decide) ?_)
        | ((with_reducible refine hK _ ?_); clear hK K) | ((with_reducible refine hKt ?_); clear hKt hKf Kt Kf) | ((with_reducible refine hKf ?_); clear hKt hKf Kt Kf) | ((with_reducible refine condP_split (fun hg => hKt ?_) (fun hg => hKf ?_)) <;> clear hKt hKf Kt Kf <;> (try simp only [hgW] at hg) <;> try (exfalso; omega))
        | ((first | (with_reducible refine guardP_split (fun hg => ?_) (fun hg => ?_)) <;> simp -implicitDefEqProofs only [hg, hy, av_mk', hd1, hw, e3, Int.cast_ofNat_Int, hn, go_sem, simprocAttr] <;> (try simp only [hgW] at hg) | ((first | with_reducible (first | refine AWP.seqRB k28_VsCSize fun K hK => ?_ | refine AWP.lastRB k28_VsCSize fun K hK => ?_ | refine AWP.seqC fun Kt Kf hKt hKf => ?_ | refine AWP.condK fun Kt Kf hKt hKf => ?_ | refine retS_ret ?_ | refine retS_end ?_) | refine callE_P (c28) ?_ | refine callP_intro2 (c28) ?_ | refine callE_X (c28) ?_); simp -implicitDefEqProofs only [hy, av_mk', hd1, hw, e3, Int.cast_ofNat_Int, hn, go_sem, simprocAttr])) <;> try simp (disch := omega) only [wrW])
        | with_reducible refine And.intro (by first | omega | (simp only [hgW]; omega)) ?_
        | (exfalso; omega)
      refine ⟨(k + 1, n + z), ?_, ⟨by simp only; omega, by simp only; omega, hf⟩, by simp only; omega⟩
      rw [e2]
      simp -implicitDefEqProofs only [Int.cast_ofNat_Int, hn, go_sem, simprocAttr]
      try rfl
end Go.Proofs.YtijcpdgfbboamaaDoor
