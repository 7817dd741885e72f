/- What the document's item, Decode and Whole come to. -/
import Derived.Test.YtijcpdgfbboamaaDoorVsCRef6
import Derived.Test.YtijcpdgfbboamaaDoorVsCRef7
import Derived.Test.YtijcpdgfbboamaaDoorVsCWhole
import Derived.Test.YtijcpdgfbboamaaDoorVsCAwake
open Go Go.VS
namespace Go.Proofs.YtijcpdgfbboamaaDoor
set_option linter.unusedVariables false
set_option linter.unusedSimpArgs false
set_option maxRecDepth 20000
set_option maxHeartbeats 4000000
theorem f43_rest {valid : List UInt8 → Bool} (hv : ValidOk valid) (grp : Option (Bool → Nat → RS → CI × RS)) (D : Nat) (hg : GOk grp D) (b : List UInt8) (items : Nat) (hi : items ≤ 10000) (hl : b.length ≤ 100000) :
    CallsB Tryd.prog 43 [.ptr 1000000 0, .int .i64 (D : Int)] [(RS.mk b items 0).cells false] (restR valid grp ⟨b, items + 1, 0⟩).1.av [(restR valid grp ⟨b, items + 1, 0⟩).2.cells false] := by
  obtain ⟨r, hr⟩ : ∃ r, restR valid grp ⟨b, items + 1, 0⟩ = r := ⟨_, rfl⟩
  rw [hr]
  unfold restR at hr
  simp only at hr
  by_cases hm : 512 < items + 1
  · rw [if_pos hm] at hr
    subst hr
    exact f43_many D b items false hi hm
  rw [if_neg hm] at hr
  by_cases hb : b.length = 0
  · rw [if_pos hb] at hr
    subst hr
    have hb' := List.length_eq_zero_iff.1 hb
    subst hb'
    exact f43_nil D items false (by omega)
  rw [if_neg hb] at hr
  have hc := (b.getD 0 default).toNat_lt
  by_cases h7 : (b.getD 0 default).toNat / 32 = 7
  · rw [if_pos h7] at hr
    exact f43_7 D b (by omega) items _ (by omega) hl h7 rfl r hr
  rw [if_neg h7] at hr
  by_cases h24 : 24 ≤ (b.getD 0 default).toNat % 32
  · rw [if_pos h24] at hr
    by_cases hbad : 27 < (b.getD 0 default).toNat % 32 ∨ (b.drop 1).length < 2 ^ ((b.getD 0 default).toNat % 32 - 24)
    · rw [if_pos hbad] at hr
      subst hr
      exact f43_bad D b (by omega) items _ _ (by omega) hl rfl (by omega) rfl h24 hbad
    · rw [if_neg hbad] at hr
      exact f43_more hv grp D hg b (by omega) items _ ((b.getD 0 default).toNat % 32 - 24) (by omega) hl rfl (by omega) (by omega) (by omega) (by omega) r hr
  · rw [if_neg h24] at hr
    subst hr
    exact f43_low hv grp D hg b (by omega) items _ _ (by omega) hl rfl (by omega) rfl (by omega)
theorem itemR_keeps (valid : List UInt8 → Bool) (d : Nat) : KeepsR (itemR valid d) := by
  have K := itemS_keeps valid d
  refine ⟨fun s h1 h2 => ?_, fun s h1 h2 => ?_⟩
  · have e := (item_agr valid d s h1).2 h2
    rw [e]
    exact K.len s
  · have e := (item_agr valid d s h1).2 h2
    rw [e] at h2 ⊢
    exact ⟨K.more s, (K.good s h2).2⟩
theorem f43_ok {valid : List UInt8 → Bool} (hv : ValidOk valid) : ∀ (d D : Nat), D + d = 8 → ItROk (itemR valid d) D
  | 0, D, h => fun s he hl hi => by
    obtain ⟨b, items, err⟩ := s
    have he : err = 0 := he
    subst he
    exact f43_rest hv none D (.inl ⟨by omega, rfl⟩) b items hi hl
  | d + 1, D, h => fun s he hl hi => by
    obtain ⟨b, items, err⟩ := s
    have he : err = 0 := he
    subst he
    exact f43_rest hv _ D (.inr ⟨by omega, itemR valid d, itemR_keeps valid d, f43_ok hv d (D + 1) (by omega), rfl⟩) b items hi hl
theorem f33_ok {valid : List UInt8 → Bool} (hv : ValidOk valid) (nb : Bool) (b : List UInt8) (hnb : nb = true → b = []) :
    CallsP Tryd.prog 33 [.sl none nb 1 (b.map u8)] (.tup [(decS valid b).1.av, restAV (decS valid b).2.1, .int .i64 ((decS valid b).2.2 : Int)]) := by
  by_cases hlong : 8192 < b.length
  · have e : decS valid b = (.zero, none, 3) := by unfold decS; rw [if_pos hlong]
    rw [e]
    refine CallsP.introF Tryd.func33 rfl (by show 1 ≤ 31; decide) ?_
    rintro X hX
    have hn : X.n = 31 := hX
    unfold Tryd.f33
    dsimp only
    rw [entryB_0, entry1]
    repeat' first
      | with_reducible (first | refine AWP.seqA ?_ | refine AWP.seqB ?_ | refine AWP.block ?_ | refine AWP.skipN ?_ | refine AWP.skip ?_ | refine AWP.exit ?_ | refine AWP.ret ?_ | refine LoopN.succ ?_ | refine thenS_n ?_ | refine thenS_x ?_ | refine thenS_r ?_ | refine blockS_n ?_ | refine blockS_r ?_ | refine blockS_x ?_ | refine blockS_y (by decide) ?_)
      | ((with_reducible refine hK _ ?_); clear hK K) | ((with_reducible refine hKt ?_); clear hKt hKf Kt Kf) | ((with_reducible refine hKf ?_); clear hKt hKf Kt Kf) | ((with_reducible refine condP_split (fun hg => hKt ?_) (fun hg => hKf ?_)) <;> clear hKt hKf Kt Kf <;> (try simp only [hgW] at hg) <;> try (exfalso; omega))
      | ((first | (with_reducible refine guardP_split (fun hg => ?_) (fun hg => ?_)) <;> simp -implicitDefEqProofs only [hg, zero_av, restAV, Int.cast_ofNat_Int, hn, go_sem, simprocAttr] <;> (try simp only [hgW] at hg) | ((first | with_reducible (first | refine AWP.seqRB [0,2,3,4,5,6,9,20] fun K hK => ?_ | refine AWP.lastRB [0,2,3,4,5,6,9,20] fun K hK => ?_ | refine AWP.seqM (id := 6) [0,2,3,4,5,6,9,20] [2] [0,0,2,6,14,1,33,127] [[1,2,3,4,0,5,6,7],[0,5,1,2,3,4,6,7]] mixed (by kernel_rfl) (by kernel_rfl) (by with_unfolding_all rfl) fun K hK => ?_ | refine AWP.lastM (id := 6) [0,2,3,4,5,6,9,20] [2] [0,0,2,6,14,1,33,127] [[1,2,3,4,0,5,6,7],[0,5,1,2,3,4,6,7]] mixed (by kernel_rfl) (by kernel_rfl) (by with_unfolding_all rfl) fun K hK => ?_ | refine AWP.seqM (id := 7) [0,2,3,4,5,6,9,20] [2] [0,0,2,6,14,1,63,127] [[0,1,2,3,4,5,6,7],[0,5,1,2,3,4,6,7],[1,2,3,4,0,5,6,7]] mixed (by kernel_rfl) (by kernel_rfl) (by with_unfolding_all rfl) fun K hK => ?_ | refine AWP.lastM (id := 7) [0,2,3,4,5,6,9,20] [2] [0,0,2,6,14,1,63,127] [[0,1,2,3,4,5,6,7],[0,5,1,2,3,4,6,7],[1,2,3,4,0,5,6,7]] mixed (by kernel_rfl) (by kernel_rfl) (by with_unfolding_all rfl) fun K hK => ?_ | refine AWP.seqC fun Kt Kf hKt hKf => ?_ | refine AWP.condK fun Kt Kf hKt hKf => ?_ | refine retS_ret ?_ | refine retS_end ?_ | refine retSB_ret [] ?_ | refine retSB_end [] ?_ | refine retSF_ret [] ?_ | refine retSF_end [] ?_)); simp -implicitDefEqProofs only [zero_av, restAV, Int.cast_ofNat_Int, hn, go_sem, simprocAttr])) <;> try simp (disch := omega) only [wrW])
      | with_reducible refine And.intro (by first | omega | (simp only [hgW]; omega)) ?_
      | (exfalso; omega)
  by_cases hb : b = []
  · subst hb
    have e : decS valid [] = (.zero, none, 20) := rfl
    rw [e]
    have c43 : CallsB Tryd.prog 43 [.ptr 1000000 0, .int .i64 0] [(RS.mk [] 0 0).cells nb] CI.zero.av [(RS.mk [] (0 + 1) 20).cells nb] := f43_nil 0 0 nb (by decide)
    refine CallsP.introF Tryd.func33 rfl (by show 1 ≤ 31; decide) ?_
    rintro X hX
    have hn : X.n = 31 := hX
    unfold Tryd.f33
    dsimp only
    rw [entryB_0, entry1]
    repeat' first
      | with_reducible (first | refine AWP.seqA ?_ | refine AWP.seqB ?_ | refine AWP.block ?_ | refine AWP.skipN ?_ | refine AWP.skip ?_ | refine AWP.exit ?_ | refine AWP.ret ?_ | refine LoopN.succ ?_ | refine thenS_n ?_ | refine thenS_x ?_ | refine thenS_r ?_ | refine blockS_n ?_ | refine blockS_r ?_ | refine blockS_x ?_ | refine blockS_y (by decide) ?_)
      | ((with_reducible refine hK _ ?_); clear hK K) | ((with_reducible refine hKt ?_); clear hKt hKf Kt Kf) | ((with_reducible refine hKf ?_); clear hKt hKf Kt Kf) | ((with_reducible refine condP_split (fun hg => hKt ?_) (fun hg => hKf ?_)) <;> clear hKt hKf Kt Kf <;> (try simp only [hgW] at hg) <;> try (exfalso; omega))
      | ((with_reducible refine callE_B3 (c43) ?_); simp -implicitDefEqProofs only [eqOk_true, RS.cells, zero_av, restAV, Int.cast_ofNat_Int, hn, go_sem, simprocAttr]; (skip; try simp (disch := omega) only [wrW]); fail_if_success (with_reducible refine eqOk_mk ?_))
      | ((first | (with_reducible refine guardP_split (fun hg => ?_) (fun hg => ?_)) <;> simp -implicitDefEqProofs only [hg, RS.cells, zero_av, restAV, Int.cast_ofNat_Int, hn, go_sem, simprocAttr] <;> (try simp only [hgW] at hg) | ((first | with_reducible (first | refine AWP.seqRB [0,2,3,4,5,6,9,20] fun K hK => ?_ | refine AWP.lastRB [0,2,3,4,5,6,9,20] fun K hK => ?_ | refine AWP.seqM (id := 6) [0,2,3,4,5,6,9,20] [2] [0,0,2,6,14,1,33,127] [[1,2,3,4,0,5,6,7],[0,5,1,2,3,4,6,7]] mixed (by kernel_rfl) (by kernel_rfl) (by with_unfolding_all rfl) fun K hK => ?_ | refine AWP.lastM (id := 6) [0,2,3,4,5,6,9,20] [2] [0,0,2,6,14,1,33,127] [[1,2,3,4,0,5,6,7],[0,5,1,2,3,4,6,7]] mixed (by kernel_rfl) (by kernel_rfl) (by with_unfolding_all rfl) fun K hK => ?_ | refine AWP.seqM (id := 7) [0,2,3,4,5,6,9,20] [2] [0,0,2,6,14,1,63,127] [[0,1,2,3,4,5,6,7],[0,5,1,2,3,4,6,7],[1,2,3,4,0,5,6,7]] mixed (by kernel_rfl) (by kernel_rfl) (by with_unfolding_all rfl) fun K hK => ?_ | refine AWP.lastM (id := 7) [0,2,3,4,5,6,9,20] [2] [0,0,2,6,14,1,63,127] [[0,1,2,3,4,5,6,7],[0,5,1,2,3,4,6,7],[1,2,3,4,0,5,6,7]] mixed (by kernel_rfl) (by kernel_rfl) (by with_unfolding_all rfl) fun K hK => ?_ | refine AWP.seqC fun Kt Kf hKt hKf => ?_ | refine AWP.condK fun Kt Kf hKt hKf => ?_ | refine retS_ret ?_ | refine retS_end ?_ | refine retSB_ret [] ?_ | refine retSB_end [] ?_ | refine retSF_ret [] ?_ | refine retSF_end [] ?_)); simp -implicitDefEqProofs only [RS.cells, zero_av, restAV, Int.cast_ofNat_Int, hn, go_sem, simprocAttr])) <;> try simp (disch := omega) only [wrW])
      | with_reducible refine And.intro (by first | omega | (simp only [hgW]; omega)) ?_
      | (exfalso; omega)
  have hnf : nb = false := by
    cases nb with
    | false => rfl
    | true => exact absurd (hnb rfl) hb
  subst hnf
  have A := item_agr valid 8 ⟨b, 0, 0⟩ rfl
  have c43 : CallsB Tryd.prog 43 [.ptr 1000000 0, .int .i64 0] [(RS.mk b 0 0).cells false] (itemR valid 8 ⟨b, 0, 0⟩).1.av [(itemR valid 8 ⟨b, 0, 0⟩).2.cells false] := f43_ok hv 8 0 (by decide) ⟨b, 0, 0⟩ rfl (by simp only; omega) (by simp only; omega)
  obtain ⟨p, hp⟩ : ∃ p, itemR valid 8 ⟨b, 0, 0⟩ = p := ⟨_, rfl⟩
  rw [hp] at A c43
  have e : decS valid b = if p.2.err ≠ 0 then (.zero, none, p.2.err) else (p.1, some p.2.b, 0) := by
    unfold decS
    rw [if_neg hlong]
    simp only
    by_cases h : p.2.err = 0
    · rw [← A.2 h]
    · rw [if_pos h, ← A.1, if_pos h]
  rw [e]
  obtain ⟨⟨ki, ni, bni, bi, kni, kids⟩, ⟨b', items', err'⟩⟩ := p
  simp only at c43 ⊢
  by_cases he : err' = 0
  · subst he
    rw [if_neg (by simp)]
    refine CallsP.introF Tryd.func33 rfl (by show 1 ≤ 31; decide) ?_
    rintro X hX
    have hn : X.n = 31 := hX
    unfold Tryd.f33
    dsimp only
    rw [entryB_0, entry1]
    repeat' first
      | with_reducible (first | refine AWP.seqA ?_ | refine AWP.seqB ?_ | refine AWP.block ?_ | refine AWP.skipN ?_ | refine AWP.skip ?_ | refine AWP.exit ?_ | refine AWP.ret ?_ | refine LoopN.succ ?_ | refine thenS_n ?_ | refine thenS_x ?_ | refine thenS_r ?_ | refine blockS_n ?_ | refine blockS_r ?_ | refine blockS_x ?_ | refine blockS_y (by decide) ?_)
      | ((with_reducible refine hK _ ?_); clear hK K) | ((with_reducible refine hKt ?_); clear hKt hKf Kt Kf) | ((with_reducible refine hKf ?_); clear hKt hKf Kt Kf) | ((with_reducible refine condP_split (fun hg => hKt ?_) (fun hg => hKf ?_)) <;> clear hKt hKf Kt Kf <;> (try simp only [hgW] at hg) <;> try (exfalso; omega))
      | ((with_reducible refine callE_B3 (c43) ?_); simp -implicitDefEqProofs only [eqOk_true, RS.cells, av_mk', zero_av, restAV, Int.cast_ofNat_Int, hn, go_sem, simprocAttr]; (skip; try simp (disch := omega) only [wrW]); fail_if_success (with_reducible refine eqOk_mk ?_))
      | ((first | (with_reducible refine guardP_split (fun hg => ?_) (fun hg => ?_)) <;> simp -implicitDefEqProofs only [hg, RS.cells, av_mk', zero_av, restAV, Int.cast_ofNat_Int, hn, go_sem, simprocAttr] <;> (try simp only [hgW] at hg) | ((first | with_reducible (first | refine AWP.seqRB [0,2,3,4,5,6,9,20] fun K hK => ?_ | refine AWP.lastRB [0,2,3,4,5,6,9,20] fun K hK => ?_ | refine AWP.seqM (id := 6) [0,2,3,4,5,6,9,20] [2] [0,0,2,6,14,1,33,127] [[1,2,3,4,0,5,6,7],[0,5,1,2,3,4,6,7]] mixed (by kernel_rfl) (by kernel_rfl) (by with_unfolding_all rfl) fun K hK => ?_ | refine AWP.lastM (id := 6) [0,2,3,4,5,6,9,20] [2] [0,0,2,6,14,1,33,127] [[1,2,3,4,0,5,6,7],[0,5,1,2,3,4,6,7]] mixed (by kernel_rfl) (by kernel_rfl) (by with_unfolding_all rfl) fun K hK => ?_ | refine AWP.seqM (id := 7) [0,2,3,4,5,6,9,20] [2] [0,0,2,6,14,1,63,127] [[0,1,2,3,4,5,6,7],[0,5,1,2,3,4,6,7],[1,2,3,4,0,5,6,7]] mixed (by kernel_rfl) (by kernel_rfl) (by with_unfolding_all rfl) fun K hK => ?_ | refine AWP.lastM (id := 7) [0,2,3,4,5,6,9,20] [2] [0,0,2,6,14,1,63,127] [[0,1,2,3,4,5,6,7],[0,5,1,2,3,4,6,7],[1,2,3,4,0,5,6,7]] mixed (by kernel_rfl) (by kernel_rfl) (by with_unfolding_all rfl) fun K hK => ?_ | refine AWP.seqC fun Kt Kf hKt hKf => ?_ | refine AWP.condK fun Kt Kf hKt hKf => ?_ | refine retS_ret ?_ | refine retS_end ?_ | refine retSB_ret [] ?_ | refine retSB_end [] ?_ | refine retSF_ret [] ?_ | refine retSF_end [] ?_)); simp -implicitDefEqProofs only [RS.cells, av_mk', zero_av, restAV, Int.cast_ofNat_Int, hn, go_sem, simprocAttr])) <;> try simp (disch := omega) only [wrW])
      | with_reducible refine And.intro (by first | omega | (simp only [hgW]; omega)) ?_
      | (exfalso; omega)
  · rw [if_pos he]
    refine CallsP.introF Tryd.func33 rfl (by show 1 ≤ 31; decide) ?_
    rintro X hX
    have hn : X.n = 31 := hX
    unfold Tryd.f33
    dsimp only
    rw [entryB_0, entry1]
    repeat' first
      | with_reducible (first | refine AWP.seqA ?_ | refine AWP.seqB ?_ | refine AWP.block ?_ | refine AWP.skipN ?_ | refine AWP.skip ?_ | refine AWP.exit ?_ | refine AWP.ret ?_ | refine LoopN.succ ?_ | refine thenS_n ?_ | refine thenS_x ?_ | refine thenS_r ?_ | refine blockS_n ?_ | refine blockS_r ?_ | refine blockS_x ?_ | refine blockS_y (by decide) ?_)
      | ((with_reducible refine hK _ ?_); clear hK K) | ((with_reducible refine hKt ?_); clear hKt hKf Kt Kf) | ((with_reducible refine hKf ?_); clear hKt hKf Kt Kf) | ((with_reducible refine condP_split (fun hg => hKt ?_) (fun hg => hKf ?_)) <;> clear hKt hKf Kt Kf <;> (try simp only [hgW] at hg) <;> try (exfalso; omega))
      | ((with_reducible refine callE_B3 (c43) ?_); simp -implicitDefEqProofs only [eqOk_true, RS.cells, av_mk', zero_av, restAV, Int.cast_ofNat_Int, hn, go_sem, simprocAttr]; (skip; try simp (disch := omega) only [wrW]); fail_if_success (with_reducible refine eqOk_mk ?_))
      | ((first | (with_reducible refine guardP_split (fun hg => ?_) (fun hg => ?_)) <;> simp -implicitDefEqProofs only [hg, RS.cells, av_mk', zero_av, restAV, Int.cast_ofNat_Int, hn, go_sem, simprocAttr] <;> (try simp only [hgW] at hg) | ((first | with_reducible (first | refine AWP.seqRB [0,2,3,4,5,6,9,20] fun K hK => ?_ | refine AWP.lastRB [0,2,3,4,5,6,9,20] fun K hK => ?_ | refine AWP.seqM (id := 6) [0,2,3,4,5,6,9,20] [2] [0,0,2,6,14,1,33,127] [[1,2,3,4,0,5,6,7],[0,5,1,2,3,4,6,7]] mixed (by kernel_rfl) (by kernel_rfl) (by with_unfolding_all rfl) fun K hK => ?_ | refine AWP.lastM (id := 6) [0,2,3,4,5,6,9,20] [2] [0,0,2,6,14,1,33,127] [[1,2,3,4,0,5,6,7],[0,5,1,2,3,4,6,7]] mixed (by kernel_rfl) (by kernel_rfl) (by with_unfolding_all rfl) fun K hK => ?_ | refine AWP.seqM (id := 7) [0,2,3,4,5,6,9,20] [2] [0,0,2,6,14,1,63,127] [[0,1,2,3,4,5,6,7],[0,5,1,2,3,4,6,7],[1,2,3,4,0,5,6,7]] mixed (by kernel_rfl) (by kernel_rfl) (by with_unfolding_all rfl) fun K hK => ?_ | refine AWP.lastM (id := 7) [0,2,3,4,5,6,9,20] [2] [0,0,2,6,14,1,63,127] [[0,1,2,3,4,5,6,7],[0,5,1,2,3,4,6,7],[1,2,3,4,0,5,6,7]] mixed (by kernel_rfl) (by kernel_rfl) (by with_unfolding_all rfl) fun K hK => ?_ | refine AWP.seqC fun Kt Kf hKt hKf => ?_ | refine AWP.condK fun Kt Kf hKt hKf => ?_ | refine retS_ret ?_ | refine retS_end ?_ | refine retSB_ret [] ?_ | refine retSB_end [] ?_ | refine retSF_ret [] ?_ | refine retSF_end [] ?_)); simp -implicitDefEqProofs only [RS.cells, av_mk', zero_av, restAV, Int.cast_ofNat_Int, hn, go_sem, simprocAttr])) <;> try simp (disch := omega) only [wrW])
      | with_reducible refine And.intro (by first | omega | (simp only [hgW]; omega)) ?_
      | (exfalso; omega)
end Go.Proofs.YtijcpdgfbboamaaDoor
open Go Go.VS
namespace Go.Proofs.YtijcpdgfbboamaaDoor
set_option linter.unusedVariables false
set_option linter.unusedSimpArgs false
set_option maxRecDepth 20000
set_option maxHeartbeats 4000000
theorem f34_ok {valid : List UInt8 → Bool} (hv : ValidOk valid) (nb : Bool) (b : List UInt8) (hnb : nb = true → b = []) (hbl : b.length ≤ 100000) :
    CallsP Tryd.prog 34 [.sl none nb 1 (b.map u8)] (.tup [(wholeS valid b).1.av, .int .i64 ((wholeS valid b).2 : Int)]) := by
  have c33 := f33_ok hv nb b hnb
  obtain ⟨d, hd⟩ : ∃ d, decS valid b = d := ⟨_, rfl⟩
  have e : wholeS valid b = if d.2.2 ≠ 0 then (.zero, d.2.2) else if (d.2.1.getD []) ≠ [] then (.zero, 20) else (d.1, 0) := by unfold wholeS; rw [hd]
  rw [e]
  rw [hd] at c33
  obtain ⟨⟨ki, ni, bni, bi, kni, kids⟩, o, err⟩ := d
  simp only at c33 ⊢
  by_cases he : err = 0
  · subst he
    rw [if_neg (by simp)]
    cases o with
    | none =>
      simp only [Option.getD_none, ne_eq, not_true_eq_false, if_false]
      simp only [restAV, av_mk] at c33
      refine CallsP.introF Tryd.func34 rfl (by show 1 ≤ 22; decide) ?_
      rintro X hX
      have hn : X.n = 22 := hX
      unfold Tryd.f34
      dsimp only
      rw [entryB_0, entry1]
      repeat' first
        | with_reducible (first | refine AWP.seqA ?_ | refine AWP.seqB ?_ | refine AWP.block ?_ | refine AWP.skipN ?_ | refine AWP.skip ?_ | refine AWP.exit ?_ | refine AWP.ret ?_ | refine LoopN.succ ?_ | refine thenS_n ?_ | refine thenS_x ?_ | refine thenS_r ?_ | refine blockS_n ?_ | refine blockS_r ?_ | refine blockS_x ?_ | refine blockS_y (by decide) ?_)
        | ((with_reducible refine hK _ ?_); clear hK K) | ((with_reducible refine hKt ?_); clear hKt hKf Kt Kf) | ((with_reducible refine hKf ?_); clear hKt hKf Kt Kf) | ((with_reducible refine condP_split (fun hg => hKt ?_) (fun hg => hKf ?_)) <;> clear hKt hKf Kt Kf <;> (try simp only [hgW] at hg) <;> try (exfalso; omega))
        | ((first | (with_reducible refine guardP_split (fun hg => ?_) (fun hg => ?_)) <;> simp -implicitDefEqProofs only [hg, av_mk, zero_av, Int.cast_ofNat_Int, hn, go_sem, simprocAttr] <;> (try simp only [hgW] at hg) | ((first | with_reducible (first | refine AWP.seqRB [0,2,3,4,5,6,14,19] fun K hK => ?_ | refine AWP.lastRB [0,2,3,4,5,6,14,19] fun K hK => ?_ | refine AWP.seqC fun Kt Kf hKt hKf => ?_ | refine AWP.condK fun Kt Kf hKt hKf => ?_ | refine retS_ret ?_ | refine retS_end ?_ | refine retSB_ret [] ?_ | refine retSB_end [] ?_ | refine retSF_ret [] ?_ | refine retSF_end [] ?_) | refine callE_P (c33) ?_ | refine callP_intro2 (c33) ?_ | refine callE_X (c33) ?_); simp -implicitDefEqProofs only [av_mk, zero_av, Int.cast_ofNat_Int, hn, go_sem, simprocAttr])) <;> try simp (disch := omega) only [wrW])
        | with_reducible refine And.intro (by first | omega | (simp only [hgW]; omega)) ?_
        | (exfalso; omega)
    | some l =>
      simp only [Option.getD_some]
      simp only [restAV, av_mk] at c33
      by_cases hl : l = []
      · rw [if_neg (fun h => h hl)]
        have hl0 : l.length = 0 := by rw [hl]; rfl
        refine CallsP.introF Tryd.func34 rfl (by show 1 ≤ 22; decide) ?_
        rintro X hX
        have hn : X.n = 22 := hX
        unfold Tryd.f34
        dsimp only
        rw [entryB_0, entry1]
        repeat' first
          | with_reducible (first | refine AWP.seqA ?_ | refine AWP.seqB ?_ | refine AWP.block ?_ | refine AWP.skipN ?_ | refine AWP.skip ?_ | refine AWP.exit ?_ | refine AWP.ret ?_ | refine LoopN.succ ?_ | refine thenS_n ?_ | refine thenS_x ?_ | refine thenS_r ?_ | refine blockS_n ?_ | refine blockS_r ?_ | refine blockS_x ?_ | refine blockS_y (by decide) ?_)
          | ((with_reducible refine hK _ ?_); clear hK K) | ((with_reducible refine hKt ?_); clear hKt hKf Kt Kf) | ((with_reducible refine hKf ?_); clear hKt hKf Kt Kf) | ((with_reducible refine condP_split (fun hg => hKt ?_) (fun hg => hKf ?_)) <;> clear hKt hKf Kt Kf <;> (try simp only [hgW] at hg) <;> try (exfalso; omega))
          | ((first | (with_reducible refine guardP_split (fun hg => ?_) (fun hg => ?_)) <;> simp -implicitDefEqProofs only [hg, av_mk, zero_av, Int.cast_ofNat_Int, hn, go_sem, simprocAttr] <;> (try simp only [hgW] at hg) | ((first | with_reducible (first | refine AWP.seqRB [0,2,3,4,5,6,14,19] fun K hK => ?_ | refine AWP.lastRB [0,2,3,4,5,6,14,19] fun K hK => ?_ | refine AWP.seqC fun Kt Kf hKt hKf => ?_ | refine AWP.condK fun Kt Kf hKt hKf => ?_ | refine retS_ret ?_ | refine retS_end ?_ | refine retSB_ret [] ?_ | refine retSB_end [] ?_ | refine retSF_ret [] ?_ | refine retSF_end [] ?_) | refine callE_P (c33) ?_ | refine callP_intro2 (c33) ?_ | refine callE_X (c33) ?_); simp -implicitDefEqProofs only [av_mk, zero_av, Int.cast_ofNat_Int, hn, go_sem, simprocAttr])) <;> try simp (disch := omega) only [wrW])
          | with_reducible refine And.intro (by first | omega | (simp only [hgW]; omega)) ?_
          | (exfalso; omega)
      · rw [if_pos hl]
        have hl0 : 0 < l.length := List.length_pos_iff.2 hl
        refine CallsP.introF Tryd.func34 rfl (by show 1 ≤ 22; decide) ?_
        rintro X hX
        have hn : X.n = 22 := hX
        unfold Tryd.f34
        dsimp only
        rw [entryB_0, entry1]
        repeat' first
          | with_reducible (first | refine AWP.seqA ?_ | refine AWP.seqB ?_ | refine AWP.block ?_ | refine AWP.skipN ?_ | refine AWP.skip ?_ | refine AWP.exit ?_ | refine AWP.ret ?_ | refine LoopN.succ ?_ | refine thenS_n ?_ | refine thenS_x ?_ | refine thenS_r ?_ | refine blockS_n ?_ | refine blockS_r ?_ | refine blockS_x ?_ | refine blockS_y (by decide) ?_)
          | ((with_reducible refine hK _ ?_); clear hK K) | ((with_reducible refine hKt ?_); clear hKt hKf Kt Kf) | ((with_reducible refine hKf ?_); clear hKt hKf Kt Kf) | ((with_reducible refine condP_split (fun hg => hKt ?_) (fun hg => hKf ?_)) <;> clear hKt hKf Kt Kf <;> (try simp only [hgW] at hg) <;> try (exfalso; omega))
          | ((first | (with_reducible refine guardP_split (fun hg => ?_) (fun hg => ?_)) <;> simp -implicitDefEqProofs only [hg, av_mk, zero_av, Int.cast_ofNat_Int, hn, go_sem, simprocAttr] <;> (try simp only [hgW] at hg) | ((first | with_reducible (first | refine AWP.seqRB [0,2,3,4,5,6,14,19] fun K hK => ?_ | refine AWP.lastRB [0,2,3,4,5,6,14,19] fun K hK => ?_ | refine AWP.seqC fun Kt Kf hKt hKf => ?_ | refine AWP.condK fun Kt Kf hKt hKf => ?_ | refine retS_ret ?_ | refine retS_end ?_ | refine retSB_ret [] ?_ | refine retSB_end [] ?_ | refine retSF_ret [] ?_ | refine retSF_end [] ?_) | refine callE_P (c33) ?_ | refine callP_intro2 (c33) ?_ | refine callE_X (c33) ?_); simp -implicitDefEqProofs only [av_mk, zero_av, Int.cast_ofNat_Int, hn, go_sem, simprocAttr])) <;> try simp (disch := omega) only [wrW])
          | with_reducible refine And.intro (by first | omega | (simp only [hgW]; omega)) ?_
          | (exfalso; omega)
  · rw [if_pos he]
    cases o with
    | none =>
      simp only [restAV, av_mk] at c33
      refine CallsP.introF Tryd.func34 rfl (by show 1 ≤ 22; decide) ?_
      rintro X hX
      have hn : X.n = 22 := hX
      unfold Tryd.f34
      dsimp only
      rw [entryB_0, entry1]
      repeat' first
        | with_reducible (first | refine AWP.seqA ?_ | refine AWP.seqB ?_ | refine AWP.block ?_ | refine AWP.skipN ?_ | refine AWP.skip ?_ | refine AWP.exit ?_ | refine AWP.ret ?_ | refine LoopN.succ ?_ | refine thenS_n ?_ | refine thenS_x ?_ | refine thenS_r ?_ | refine blockS_n ?_ | refine blockS_r ?_ | refine blockS_x ?_ | refine blockS_y (by decide) ?_)
        | ((with_reducible refine hK _ ?_); clear hK K) | ((with_reducible refine hKt ?_); clear hKt hKf Kt Kf) | ((with_reducible refine hKf ?_); clear hKt hKf Kt Kf) | ((with_reducible refine condP_split (fun hg => hKt ?_) (fun hg => hKf ?_)) <;> clear hKt hKf Kt Kf <;> (try simp only [hgW] at hg) <;> try (exfalso; omega))
        | ((first | (with_reducible refine guardP_split (fun hg => ?_) (fun hg => ?_)) <;> simp -implicitDefEqProofs only [hg, av_mk, zero_av, Int.cast_ofNat_Int, hn, go_sem, simprocAttr] <;> (try simp only [hgW] at hg) | ((first | with_reducible (first | refine AWP.seqRB [0,2,3,4,5,6,14,19] fun K hK => ?_ | refine AWP.lastRB [0,2,3,4,5,6,14,19] fun K hK => ?_ | refine AWP.seqC fun Kt Kf hKt hKf => ?_ | refine AWP.condK fun Kt Kf hKt hKf => ?_ | refine retS_ret ?_ | refine retS_end ?_ | refine retSB_ret [] ?_ | refine retSB_end [] ?_ | refine retSF_ret [] ?_ | refine retSF_end [] ?_) | refine callE_P (c33) ?_ | refine callP_intro2 (c33) ?_ | refine callE_X (c33) ?_); simp -implicitDefEqProofs only [av_mk, zero_av, Int.cast_ofNat_Int, hn, go_sem, simprocAttr])) <;> try simp (disch := omega) only [wrW])
        | with_reducible refine And.intro (by first | omega | (simp only [hgW]; omega)) ?_
        | (exfalso; omega)
    | some l =>
      simp only [restAV, av_mk] at c33
      refine CallsP.introF Tryd.func34 rfl (by show 1 ≤ 22; decide) ?_
      rintro X hX
      have hn : X.n = 22 := hX
      unfold Tryd.f34
      dsimp only
      rw [entryB_0, entry1]
      repeat' first
        | with_reducible (first | refine AWP.seqA ?_ | refine AWP.seqB ?_ | refine AWP.block ?_ | refine AWP.skipN ?_ | refine AWP.skip ?_ | refine AWP.exit ?_ | refine AWP.ret ?_ | refine LoopN.succ ?_ | refine thenS_n ?_ | refine thenS_x ?_ | refine thenS_r ?_ | refine blockS_n ?_ | refine blockS_r ?_ | refine blockS_x ?_ | refine blockS_y (by decide) ?_)
        | ((with_reducible refine hK _ ?_); clear hK K) | ((with_reducible refine hKt ?_); clear hKt hKf Kt Kf) | ((with_reducible refine hKf ?_); clear hKt hKf Kt Kf) | ((with_reducible refine condP_split (fun hg => hKt ?_) (fun hg => hKf ?_)) <;> clear hKt hKf Kt Kf <;> (try simp only [hgW] at hg) <;> try (exfalso; omega))
        | ((first | (with_reducible refine guardP_split (fun hg => ?_) (fun hg => ?_)) <;> simp -implicitDefEqProofs only [hg, av_mk, zero_av, Int.cast_ofNat_Int, hn, go_sem, simprocAttr] <;> (try simp only [hgW] at hg) | ((first | with_reducible (first | refine AWP.seqRB [0,2,3,4,5,6,14,19] fun K hK => ?_ | refine AWP.lastRB [0,2,3,4,5,6,14,19] fun K hK => ?_ | refine AWP.seqC fun Kt Kf hKt hKf => ?_ | refine AWP.condK fun Kt Kf hKt hKf => ?_ | refine retS_ret ?_ | refine retS_end ?_ | refine retSB_ret [] ?_ | refine retSB_end [] ?_ | refine retSF_ret [] ?_ | refine retSF_end [] ?_) | refine callE_P (c33) ?_ | refine callP_intro2 (c33) ?_ | refine callE_X (c33) ?_); simp -implicitDefEqProofs only [av_mk, zero_av, Int.cast_ofNat_Int, hn, go_sem, simprocAttr])) <;> try simp (disch := omega) only [wrW])
        | with_reducible refine And.intro (by first | omega | (simp only [hgW]; omega)) ?_
        | (exfalso; omega)
end Go.Proofs.YtijcpdgfbboamaaDoor
open Go Go.VS
namespace Go.Proofs.YtijcpdgfbboamaaDoor
set_option linter.unusedVariables false
set_option linter.unusedSimpArgs false
set_option maxRecDepth 20000
set_option maxHeartbeats 4000000
theorem dec_wide (valid : List UInt8 → Bool) (b : List UInt8) : Wide 8 (decS valid b).1 := by
  unfold decS
  split
  · exact Wide.leaf _ rfl
  · simp only
    split
    · exact Wide.leaf _ rfl
    · exact item_wide valid 8 _
theorem whole_wide (valid : List UInt8 → Bool) (b : List UInt8) : Wide 8 (wholeS valid b).1 := by
  unfold wholeS
  simp only
  split
  · exact Wide.leaf _ rfl
  split
  · exact Wide.leaf _ rfl
  · exact dec_wide valid b
theorem bytesOf_nil : VS.bytesOf [] = some [] := rfl
theorem f18_ok {valid : List UInt8 → Bool} (hv : ValidOk valid) (nb : Bool) (b : List UInt8) (hnb : nb = true → b = []) (hbl : b.length ≤ 100000) : CallsP Tryd.prog 18 [.sl none nb 1 (b.map u8)] (.bool true) := by
  have c26 := f26_ok hv false b (fun h => by cases h)
  have c33 := f33_ok hv nb b hnb
  have c21 := f21_ok hv false b (fun h => by cases h) hbl
  have c34 := f34_ok hv nb b hnb hbl
  have c27 := f27_ok 8 _ (dec_wide valid b)
  have c27' := f27_ok 8 _ (whole_wide valid b)
  obtain ⟨d, hd⟩ : ∃ d, decS valid b = d := ⟨_, rfl⟩
  obtain ⟨w, hw⟩ : ∃ w, wholeS valid b = w := ⟨_, rfl⟩
  rw [hd] at c26 c33 c27
  rw [hw] at c21 c34 c27'
  obtain ⟨⟨ki, ni, bni, bi, kni, kids⟩, o, err⟩ := d
  obtain ⟨⟨wk, wn, wbn, wb, wkn, wks⟩, we⟩ := w
  cases o with
  | none =>
    simp only [restAV, av_mk'] at c26 c33 c21 c34 c27 c27'
    refine CallsP.intro Tryd.func18 rfl (by show 1 ≤ 71; decide) ?_
    rintro X hX
    have hn : X.n = 71 := hX
    unfold Tryd.f18
    dsimp only
    rw [entry1]
    repeat' first
      | with_reducible (first | refine AWP.seqA ?_ | refine AWP.seqB ?_ | refine AWP.block ?_ | refine AWP.skipN ?_ | refine AWP.skip ?_ | refine AWP.exit ?_ | refine AWP.ret ?_ | refine LoopN.succ ?_ | refine thenS_n ?_ | refine thenS_x ?_ | refine thenS_r ?_ | refine blockS_n ?_ | refine blockS_r ?_ | refine blockS_x ?_ | refine blockS_y (by decide) ?_)
      | ((with_reducible refine hK _ ?_); clear hK K) | ((with_reducible refine hKt ?_); clear hKt hKf Kt Kf) | ((with_reducible refine hKf ?_); clear hKt hKf Kt Kf) | ((with_reducible refine condP_split (fun hg => hKt ?_) (fun hg => hKf ?_)) <;> clear hKt hKf Kt Kf <;> (try simp only [hgW] at hg) <;> try (exfalso; omega))
      | ((first | (with_reducible refine guardP_split (fun hg => ?_) (fun hg => ?_)) <;> simp -implicitDefEqProofs only [hg, av_mk', Int.cast_ofNat_Int, bytesOf_nil, hn, go_sem, simprocAttr] <;> (try simp only [hgW] at hg) | ((first | with_reducible (first | refine AWP.seqRB [0,2,3,4,5,6,7,8,9,10,11,12,13] fun K hK => ?_ | refine AWP.lastRB [0,2,3,4,5,6,7,8,9,10,11,12,13] fun K hK => ?_ | refine AWP.seqC fun Kt Kf hKt hKf => ?_ | refine AWP.condK fun Kt Kf hKt hKf => ?_ | refine retS_ret ?_ | refine retS_end ?_ | refine retSB_ret [] ?_ | refine retSB_end [] ?_ | refine retSF_ret [] ?_ | refine retSF_end [] ?_) | refine callE_P (c26) ?_ | refine callP_intro2 (c26) ?_ | refine callE_X (c26) ?_ | refine callE_P (c33) ?_ | refine callP_intro2 (c33) ?_ | refine callE_X (c33) ?_ | refine callE_P (c21) ?_ | refine callP_intro2 (c21) ?_ | refine callE_X (c21) ?_ | refine callE_P (c34) ?_ | refine callP_intro2 (c34) ?_ | refine callE_X (c34) ?_ | refine callE_P (c27) ?_ | refine callP_intro2 (c27) ?_ | refine callE_X (c27) ?_ | refine callE_P (c27') ?_ | refine callP_intro2 (c27') ?_ | refine callE_X (c27') ?_); simp -implicitDefEqProofs only [av_mk', Int.cast_ofNat_Int, bytesOf_nil, hn, go_sem, simprocAttr])) <;> try simp (disch := omega) only [wrW])
      | with_reducible refine And.intro (by first | omega | (simp only [hgW]; omega)) ?_
      | (exfalso; omega)
  | some l =>
    simp only [restAV, av_mk'] at c26 c33 c21 c34 c27 c27'
    refine CallsP.intro Tryd.func18 rfl (by show 1 ≤ 71; decide) ?_
    rintro X hX
    have hn : X.n = 71 := hX
    unfold Tryd.f18
    dsimp only
    rw [entry1]
    repeat' first
      | with_reducible (first | refine AWP.seqA ?_ | refine AWP.seqB ?_ | refine AWP.block ?_ | refine AWP.skipN ?_ | refine AWP.skip ?_ | refine AWP.exit ?_ | refine AWP.ret ?_ | refine LoopN.succ ?_ | refine thenS_n ?_ | refine thenS_x ?_ | refine thenS_r ?_ | refine blockS_n ?_ | refine blockS_r ?_ | refine blockS_x ?_ | refine blockS_y (by decide) ?_)
      | ((with_reducible refine hK _ ?_); clear hK K) | ((with_reducible refine hKt ?_); clear hKt hKf Kt Kf) | ((with_reducible refine hKf ?_); clear hKt hKf Kt Kf) | ((with_reducible refine condP_split (fun hg => hKt ?_) (fun hg => hKf ?_)) <;> clear hKt hKf Kt Kf <;> (try simp only [hgW] at hg) <;> try (exfalso; omega))
      | ((first | (with_reducible refine guardP_split (fun hg => ?_) (fun hg => ?_)) <;> simp -implicitDefEqProofs only [hg, av_mk', Int.cast_ofNat_Int, bytesOf_nil, hn, go_sem, simprocAttr] <;> (try simp only [hgW] at hg) | ((first | with_reducible (first | refine AWP.seqRB [0,2,3,4,5,6,7,8,9,10,11,12,13] fun K hK => ?_ | refine AWP.lastRB [0,2,3,4,5,6,7,8,9,10,11,12,13] fun K hK => ?_ | refine AWP.seqC fun Kt Kf hKt hKf => ?_ | refine AWP.condK fun Kt Kf hKt hKf => ?_ | refine retS_ret ?_ | refine retS_end ?_ | refine retSB_ret [] ?_ | refine retSB_end [] ?_ | refine retSF_ret [] ?_ | refine retSF_end [] ?_) | refine callE_P (c26) ?_ | refine callP_intro2 (c26) ?_ | refine callE_X (c26) ?_ | refine callE_P (c33) ?_ | refine callP_intro2 (c33) ?_ | refine callE_X (c33) ?_ | refine callE_P (c21) ?_ | refine callP_intro2 (c21) ?_ | refine callE_X (c21) ?_ | refine callE_P (c34) ?_ | refine callP_intro2 (c34) ?_ | refine callE_X (c34) ?_ | refine callE_P (c27) ?_ | refine callP_intro2 (c27) ?_ | refine callE_X (c27) ?_ | refine callE_P (c27') ?_ | refine callP_intro2 (c27') ?_ | refine callE_X (c27') ?_); simp -implicitDefEqProofs only [av_mk', Int.cast_ofNat_Int, bytesOf_nil, hn, go_sem, simprocAttr])) <;> try simp (disch := omega) only [wrW])
      | with_reducible refine And.intro (by first | omega | (simp only [hgW]; omega)) ?_
      | (exfalso; omega)
end Go.Proofs.YtijcpdgfbboamaaDoor
