/- What the document's item, Decode and Whole come to. -/
import Derived.Test.YtijcpdgfbboamaaDoorVsCRef6
import Derived.Test.YtijcpdgfbboamaaDoorVsCRef7
import Derived.Test.YtijcpdgfbboamaaDoorVsCWhole
open Go Go.VS
namespace Go.Proofs.YtijcpdgfbboamaaDoor
set_option linter.unusedVariables false
set_option linter.unusedSimpArgs false
set_option maxRecDepth 20000
set_option maxHeartbeats 4000000
theorem f43_rest {valid : List UInt8 → Bool} (hv : ValidOk valid) (grp : Option (Bool → Nat → RS → CI × RS)) (D : Nat) (hg : GOk grp D) (b : List UInt8) (items : Nat) (hi : items ≤ 10000) (hl : b.length ≤ 100000) :
    CallsB Tryd.prog 43 [.ptr 1000000 0, .int .i64 (D : Int)] [(RS.mk b items 0).cells false] (restR valid grp ⟨b, items + 1, 0⟩).1.av [(restR valid grp ⟨b, items + 1, 0⟩).2.cells false] := by
  obtain ⟨r, hr⟩ : ∃ r, restR valid grp ⟨b, items + 1, 0⟩ = r := ⟨_, rfl⟩
  rw [hr]
  unfold restR at hr
  simp only at hr
  by_cases hm : 512 < items + 1
  · rw [if_pos hm] at hr
    subst hr
    exact f43_many D b items false hi hm
  rw [if_neg hm] at hr
  by_cases hb : b.length = 0
  · rw [if_pos hb] at hr
    subst hr
    have hb' := List.length_eq_zero_iff.1 hb
    subst hb'
    exact f43_nil D items false (by omega)
  rw [if_neg hb] at hr
  have hc := (b.getD 0 default).toNat_lt
  by_cases h7 : (b.getD 0 default).toNat / 32 = 7
  · rw [if_pos h7] at hr
    exact f43_7 D b (by omega) items _ (by omega) hl h7 rfl r hr
  rw [if_neg h7] at hr
  by_cases h24 : 24 ≤ (b.getD 0 default).toNat % 32
  · rw [if_pos h24] at hr
    by_cases hbad : 27 < (b.getD 0 default).toNat % 32 ∨ (b.drop 1).length < 2 ^ ((b.getD 0 default).toNat % 32 - 24)
    · rw [if_pos hbad] at hr
      subst hr
      exact f43_bad D b (by omega) items _ _ (by omega) hl rfl (by omega) rfl h24 hbad
    · rw [if_neg hbad] at hr
      exact f43_more hv grp D hg b (by omega) items _ ((b.getD 0 default).toNat % 32 - 24) (by omega) hl rfl (by omega) (by omega) (by omega) (by omega) r hr
  · rw [if_neg h24] at hr
    subst hr
    exact f43_low hv grp D hg b (by omega) items _ _ (by omega) hl rfl (by omega) rfl (by omega)
theorem itemR_keeps (valid : List UInt8 → Bool) (d : Nat) : KeepsR (itemR valid d) := by
  have K := itemS_keeps valid d
  refine ⟨fun s h1 h2 => ?_, fun s h1 h2 => ?_⟩
  · have e := (item_agr valid d s h1).2 h2
    rw [e]
    exact K.len s
  · have e := (item_agr valid d s h1).2 h2
    rw [e] at h2 ⊢
    exact ⟨K.more s, (K.good s h2).2⟩
theorem f43_ok {valid : List UInt8 → Bool} (hv : ValidOk valid) : ∀ (d D : Nat), D + d = 8 → ItROk (itemR valid d) D
  | 0, D, h => fun s he hl hi => by
    obtain ⟨b, items, err⟩ := s
    have he : err = 0 := he
    subst he
    exact f43_rest hv none D (.inl ⟨by omega, rfl⟩) b items hi hl
  | d + 1, D, h => fun s he hl hi => by
    obtain ⟨b, items, err⟩ := s
    have he : err = 0 := he
    subst he
    exact f43_rest hv _ D (.inr ⟨by omega, itemR valid d, itemR_keeps valid d, f43_ok hv d (D + 1) (by omega), rfl⟩) b items hi hl
def k33_VsCRef8 : List Nat := [0,2,3,4,5,6,9,20]
def p33_6_VsCRef8 : List Nat := [2]
def a33_6_VsCRef8 : List Nat := [0,0,2,6,14,1,33,127]
def o33_6_VsCRef8 : List (List Nat) := [[1,2,3,4,0,5,6,7],[0,5,1,2,3,4,6,7]]
def p33_7_VsCRef8 : List Nat := [2]
def a33_7_VsCRef8 : List Nat := [0,0,2,6,14,1,63,127]
def o33_7_VsCRef8 : List (List Nat) := [[0,1,2,3,4,5,6,7],[0,5,1,2,3,4,6,7],[1,2,3,4,0,5,6,7]]
attribute [go_sem] k33_VsCRef8 p33_6_VsCRef8 a33_6_VsCRef8 o33_6_VsCRef8 p33_7_VsCRef8 a33_7_VsCRef8 o33_7_VsCRef8
theorem f33_ok {valid : List UInt8 → Bool} (hv : ValidOk valid) (nb : Bool) (b : List UInt8) (hnb : nb = true → b = []) :
    CallsP Tryd.prog 33 [.sl none nb 1 (b.map u8)] (.tup [(decS valid b).1.av, restAV (decS valid b).2.1, .int .i64 ((decS valid b).2.2 : Int)]) := by
  by_cases hlong : 8192 < b.length
  · have e : decS valid b = (.zero, none, 3) := by unfold decS; rw [if_pos hlong]
    rw [e]
    refine CallsP.introF Tryd.func33 rfl (by show 1 ≤ 31; decide) ?_
    rintro X hX
    have hn : X.n = 31 := hX
    unfold Tryd.f33
    dsimp only
    rw [entryB_0, entry1]
    repeat' first
     | with_reducible refine Rl.go (by constructor <;> decide) ?_
     | ((with_reducible first | refine hK _ ?_ | refine hK.1 ?_ | refine hK.2 ?_); clear hK K)
     | ((with_reducible refine condS hK (fun hg => ?_) fun hg => ?_) <;> clear hK K <;> (try simp only [hgW] at hg) <;> try (exfalso; omega))
     | ((first | ((with_reducible first | refine Rk.go k33_VsCRef8 (by constructor) ?_ | refine Rm.go 6 k33_VsCRef8 p33_6_VsCRef8 a33_6_VsCRef8 o33_6_VsCRef8 mixed (by constructor) (by kernel_rfl) (by kernel_rfl) (by with_unfolding_all rfl) ?_ | refine Rm.go 7 k33_VsCRef8 p33_7_VsCRef8 a33_7_VsCRef8 o33_7_VsCRef8 mixed (by constructor) (by kernel_rfl) (by kernel_rfl) (by with_unfolding_all rfl) ?_); intro K hK) | with_reducible refine Rr.go [] (by constructor) ?_ | (with_reducible refine guardP_split (fun hg => ?_) fun hg => ?_) <;> (try simp only [hg]) <;> (try simp only [hgW] at hg)) <;> simp -implicitDefEqProofs only [zero_av, restAV, Int.cast_ofNat_Int, hn, go_sem, simprocAttr] <;> try simp (disch := omega) only [wrW])
     | with_reducible refine And.intro (by first | omega | (simp only [hgW]; omega)) ?_
     | (exfalso; omega)
  by_cases hb : b = []
  · subst hb
    have e : decS valid [] = (.zero, none, 20) := rfl
    rw [e]
    have c43 : CallsB Tryd.prog 43 [.ptr 1000000 0, .int .i64 0] [(RS.mk [] 0 0).cells nb] CI.zero.av [(RS.mk [] (0 + 1) 20).cells nb] := f43_nil 0 0 nb (by decide)
    refine CallsP.introF Tryd.func33 rfl (by show 1 ≤ 31; decide) ?_
    rintro X hX
    have hn : X.n = 31 := hX
    unfold Tryd.f33
    dsimp only
    rw [entryB_0, entry1]
    repeat' first
     | with_reducible refine Rl.go (by constructor <;> decide) ?_
     | ((with_reducible first | refine hK _ ?_ | refine hK.1 ?_ | refine hK.2 ?_); clear hK K)
     | ((with_reducible refine condS hK (fun hg => ?_) fun hg => ?_) <;> clear hK K <;> (try simp only [hgW] at hg) <;> try (exfalso; omega))
     | ((with_reducible refine callE_B3 c43 ?_); simp -implicitDefEqProofs only [eqOk_true, RS.cells, zero_av, restAV, Int.cast_ofNat_Int, hn, go_sem, simprocAttr]; (skip; try simp (disch := omega) only [wrW]); fail_if_success (with_reducible refine eqOk_mk ?_))
     | ((first | ((with_reducible first | refine Rk.go k33_VsCRef8 (by constructor) ?_ | refine Rm.go 6 k33_VsCRef8 p33_6_VsCRef8 a33_6_VsCRef8 o33_6_VsCRef8 mixed (by constructor) (by kernel_rfl) (by kernel_rfl) (by with_unfolding_all rfl) ?_ | refine Rm.go 7 k33_VsCRef8 p33_7_VsCRef8 a33_7_VsCRef8 o33_7_VsCRef8 mixed (by constructor) (by kernel_rfl) (by kernel_rfl) (by with_unfolding_all rfl) ?_); intro K hK) | with_reducible refine Rr.go [] (by constructor) ?_ | (with_reducible refine guardP_split (fun hg => ?_) fun hg => ?_) <;> (try simp only [hg]) <;> (try simp only [hgW] at hg)) <;> simp -implicitDefEqProofs only [RS.cells, zero_av, restAV, Int.cast_ofNat_Int, hn, go_sem, simprocAttr] <;> try simp (disch := omega) only [wrW])
     | with_reducible refine And.intro (by first | omega | (simp only [hgW]; omega)) ?_
     | (exfalso; omega)
  have hnf : nb = false := by
    cases nb with
    | false => rfl
    | true => exact absurd (hnb rfl) hb
  subst hnf
  have A := item_agr valid 8 ⟨b, 0, 0⟩ rfl
  have c43 : CallsB Tryd.prog 43 [.ptr 1000000 0, .int .i64 0] [(RS.mk b 0 0).cells false] (itemR valid 8 ⟨b, 0, 0⟩).1.av [(itemR valid 8 ⟨b, 0, 0⟩).2.cells false] := f43_ok hv 8 0 (by decide) ⟨b, 0, 0⟩ rfl (by simp only; omega) (by simp only; omega)
  obtain ⟨p, hp⟩ : ∃ p, itemR valid 8 ⟨b, 0, 0⟩ = p := ⟨_, rfl⟩
  rw [hp] at A c43
  have e : decS valid b = if p.2.err ≠ 0 then (.zero, none, p.2.err) else (p.1, some p.2.b, 0) := by
    unfold decS
    rw [if_neg hlong]
    simp only
    by_cases h : p.2.err = 0
    · rw [← A.2 h]
    · rw [if_pos h, ← A.1, if_pos h]
  rw [e]
  obtain ⟨⟨ki, ni, bni, bi, kni, kids⟩, ⟨b', items', err'⟩⟩ := p
  simp only at c43 ⊢
  by_cases he : err' = 0
  · subst he
    rw [if_neg (by simp)]
    refine CallsP.introF Tryd.func33 rfl (by show 1 ≤ 31; decide) ?_
    rintro X hX
    have hn : X.n = 31 := hX
    unfold Tryd.f33
    dsimp only
    rw [entryB_0, entry1]
    repeat' first
     | with_reducible refine Rl.go (by constructor <;> decide) ?_
     | ((with_reducible first | refine hK _ ?_ | refine hK.1 ?_ | refine hK.2 ?_); clear hK K)
     | ((with_reducible refine condS hK (fun hg => ?_) fun hg => ?_) <;> clear hK K <;> (try simp only [hgW] at hg) <;> try (exfalso; omega))
     | ((with_reducible refine callE_B3 c43 ?_); simp -implicitDefEqProofs only [eqOk_true, RS.cells, av_mk', zero_av, restAV, Int.cast_ofNat_Int, hn, go_sem, simprocAttr]; (skip; try simp (disch := omega) only [wrW]); fail_if_success (with_reducible refine eqOk_mk ?_))
     | ((first | ((with_reducible first | refine Rk.go k33_VsCRef8 (by constructor) ?_ | refine Rm.go 6 k33_VsCRef8 p33_6_VsCRef8 a33_6_VsCRef8 o33_6_VsCRef8 mixed (by constructor) (by kernel_rfl) (by kernel_rfl) (by with_unfolding_all rfl) ?_ | refine Rm.go 7 k33_VsCRef8 p33_7_VsCRef8 a33_7_VsCRef8 o33_7_VsCRef8 mixed (by constructor) (by kernel_rfl) (by kernel_rfl) (by with_unfolding_all rfl) ?_); intro K hK) | with_reducible refine Rr.go [] (by constructor) ?_ | (with_reducible refine guardP_split (fun hg => ?_) fun hg => ?_) <;> (try simp only [hg]) <;> (try simp only [hgW] at hg)) <;> simp -implicitDefEqProofs only [RS.cells, av_mk', zero_av, restAV, Int.cast_ofNat_Int, hn, go_sem, simprocAttr] <;> try simp (disch := omega) only [wrW])
     | with_reducible refine And.intro (by first | omega | (simp only [hgW]; omega)) ?_
     | (exfalso; omega)
  · rw [if_pos he]
    refine CallsP.introF Tryd.func33 rfl (by show 1 ≤ 31; decide) ?_
    rintro X hX
    have hn : X.n = 31 := hX
    unfold Tryd.f33
    dsimp only
    rw [entryB_0, entry1]
    repeat' first
     | with_reducible refine Rl.go (by constructor <;> decide) ?_
     | ((with_reducible first | refine hK _ ?_ | refine hK.1 ?_ | refine hK.2 ?_); clear hK K)
     | ((with_reducible refine condS hK (fun hg => ?_) fun hg => ?_) <;> clear hK K <;> (try simp only [hgW] at hg) <;> try (exfalso; omega))
     | ((with_reducible refine callE_B3 c43 ?_); simp -implicitDefEqProofs only [eqOk_true, RS.cells, av_mk', zero_av, restAV, Int.cast_ofNat_Int, hn, go_sem, simprocAttr]; (skip; try simp (disch := omega) only [wrW]); fail_if_success (with_reducible refine eqOk_mk ?_))
     | ((first | ((with_reducible first | refine Rk.go k33_VsCRef8 (by constructor) ?_ | refine Rm.go 6 k33_VsCRef8 p33_6_VsCRef8 a33_6_VsCRef8 o33_6_VsCRef8 mixed (by constructor) (by kernel_rfl) (by kernel_rfl) (by with_unfolding_all rfl) ?_ | refine Rm.go 7 k33_VsCRef8 p33_7_VsCRef8 a33_7_VsCRef8 o33_7_VsCRef8 mixed (by constructor) (by kernel_rfl) (by kernel_rfl) (by with_unfolding_all rfl) ?_); intro K hK) | with_reducible refine Rr.go [] (by constructor) ?_ | (with_reducible refine guardP_split (fun hg => ?_) fun hg => ?_) <;> (try simp only [hg]) <;> (try simp only [hgW] at hg)) <;> simp -implicitDefEqProofs only [RS.cells, av_mk', zero_av, restAV, Int.cast_ofNat_Int, hn, go_sem, simprocAttr] <;> try simp (disch := omega) only [wrW])
     | with_reducible refine And.intro (by first | omega | (simp only [hgW]; omega)) ?_
     | (exfalso; omega)
end Go.Proofs.YtijcpdgfbboamaaDoor
