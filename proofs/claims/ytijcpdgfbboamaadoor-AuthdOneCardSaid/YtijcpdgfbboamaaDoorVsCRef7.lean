/- What the document's item comes to, where the number takes more bytes: the number itself. -/
import Derived.Test.YtijcpdgfbboamaaDoorVsCRef6
open Go Go.VS
namespace Go.Proofs.YtijcpdgfbboamaaDoor
set_option linter.unusedVariables false
set_option linter.unusedSimpArgs false
set_option maxRecDepth 20000
set_option maxHeartbeats 4000000
def k43_VsCRef7 : List Nat := [0,1,4,5,6,7,8,9,10,11,12,25,34,63,69,81,97,108,138,142,143,147,151,161,181,186,191,195]
def a43_8_VsCRef7 : List Nat := [0,1,3,7,15,31,63,127,0,256,768,1792,3840,7936,16128,32512,255,131071]
def o43_8_VsCRef7 : List Nat := [0,1,2,3,4,5,6,7,8,9,10,11,12,13,14,15,16,17]
def a43_18_VsCRef7 : List Nat := [0,1,3,7,15,31,63,127,7,7,519,1799,3847,8191,16383]
def o43_18_VsCRef7 : List Nat := [0,1,2,3,4,5,6,7,8,9,10,11,12,13,14]
attribute [go_sem] k43_VsCRef7 a43_8_VsCRef7 o43_8_VsCRef7 a43_18_VsCRef7 o43_18_VsCRef7
theorem f43_more {valid : List UInt8 → Bool} (hv : ValidOk valid) (grp : Option (Bool → Nat → RS → CI × RS)) (D : Nat) (hg : GOk grp D) (b : List UInt8) (hb : 0 < b.length) (items k j : Nat) (hi : items + 1 ≤ 512) (hl : b.length ≤ 100000) (hk7 : (b.getD 0 default).toNat / 32 = k) (hk : k ≤ 6) (hlow : (b.getD 0 default).toNat % 32 = 24 + j) (hj : j ≤ 3)
    (hlen : 2 ^ j ≤ (b.drop 1).length) (r : CI × RS)
    (hr : (if be ((b.drop 1).take (2 ^ j)) < lowN j then (CI.zero, RS.mk ((b.drop 1).drop (2 ^ j)) (items + 1) 22) else kindR valid grp k (be ((b.drop 1).take (2 ^ j))) ⟨(b.drop 1).drop (2 ^ j), items + 1, 0⟩) = r) :
    CallsB Tryd.prog 43 [.ptr 1000000 0, .int .i64 (D : Int)] [(RS.mk b items 0).cells false] r.1.av [r.2.cells false] := by
  have e1 : (items : Int) + 1 = ((items + 1 : Nat) : Int) := by omega
  have hc := (b.getD 0 default).toNat_lt
  have e5 : Int.tdiv ((b.getD 0 default).toNat : Int) 32 = (k : Int) := by rw [Int.tdiv_eq_ediv_of_nonneg (by omega)]; omega
  have e6 : Int.tmod ((b.getD 0 default).toNat : Int) 32 = ((24 + j : Nat) : Int) := by rw [Int.tmod_eq_emod_of_nonneg (by omega)]; omega
  have hr1l : (b.drop 1).length = b.length - 1 := List.length_drop
  have hbe : ∀ i, i ≤ 8 → be ((b.drop 1).take i) < 256 ^ i := fun i h => by
    have h1 := be_lt ((b.drop 1).take i)
    exact Nat.lt_of_lt_of_le h1 (Nat.pow_le_pow_right (by decide) (by rw [List.length_take]; omega))
  have hz8 : 2 ^ j ≤ 8 := Nat.le_trans (Nat.pow_le_pow_right (by decide) hj) (by decide)
  have hn64 : be ((b.drop 1).take (2 ^ j)) < 18446744073709551616 := Nat.lt_of_lt_of_le (hbe _ hz8) (Nat.le_trans (Nat.pow_le_pow_right (by decide) hz8) (by decide))
  have c54 := f54_ok ⟨(b.drop 1).drop (2 ^ j), items + 1, 0⟩ false 22
  have T := fun (X : Ent) (hX : X.n = 209) => tail43 X hX hv grp D hg k (be ((b.drop 1).take (2 ^ j))) hk hn64 ((b.drop 1).drop (2 ^ j)) (items + 1) hi (Nat.le_trans (by rw [List.length_drop]; exact Nat.sub_le _ _) (show (b.drop 1).length ≤ 100000 by omega))
  obtain ⟨z, hz⟩ : ∃ z, z = 2 ^ j := ⟨_, rfl⟩
  obtain ⟨B, hB⟩ : ∃ B, B = lowN j := ⟨_, rfl⟩
  obtain ⟨low, hlo⟩ : ∃ low, low = 24 + j := ⟨_, rfl⟩
  rw [← hz] at hlen hr hz8 hn64 c54 T
  rw [← hB] at hr
  rw [← hlo] at e6 hlow
  rcases (show j = 0 ∨ j = 1 ∨ j = 2 ∨ j = 3 by omega) with hj' | hj' | hj' | hj'
  all_goals
    rw [hj'] at hz hB hlo
    simp only [lowN, Nat.reducePow, Nat.reduceEqDiff, if_true, if_false, Nat.reduceAdd] at hz hB hlo
    simp only [hz, hB] at c54 T hr hn64
    refine CallsB.introF Tryd.func43 rfl (by show 2 ≤ 209; decide) ?_
    rintro X hX
    have hn : X.n = 209 := hX
    unfold Tryd.f43
    dsimp only
    rw [entryB21]
    repeat' first
     | (with_reducible refine markS 32 ?_)
     | with_reducible refine Rl.go (by constructor <;> decide) ?_
     | ((with_reducible first | refine hK _ ?_ | refine hK.1 ?_ | refine hK.2 ?_); clear hK K)
     | ((with_reducible refine condS hK (fun hg => ?_) fun hg => ?_) <;> clear hK K <;> (try simp only [hgW] at hg) <;> try (exfalso; omega))
     | ((first | ((with_reducible first | refine Rk.go k43_VsCRef7 (by constructor) ?_ | refine Rd.go 8 k43_VsCRef7 a43_8_VsCRef7 o43_8_VsCRef7 mixed (by constructor) (by kernel_rfl) (by kernel_rfl) ?_ | refine Rd.go 18 k43_VsCRef7 a43_18_VsCRef7 o43_18_VsCRef7 mixed (by constructor) (by kernel_rfl) (by kernel_rfl) ?_); intro K hK) | with_reducible refine Rr.go [] (by constructor) ?_ | (with_reducible refine guardP_split (fun hg => ?_) fun hg => ?_) <;> (try simp only [hg]) <;> (try simp only [hgW] at hg)) <;> simp -implicitDefEqProofs only [RS.cells, RS.fail, zero_av, e1, e5, e6, u8, hlo, Int.cast_ofNat_Int, hn, go_sem, simprocAttr] <;> try (simp (disch := omega) only [wrW]; try simp -implicitDefEqProofs only [RS.cells, RS.fail, zero_av, e1, e5, e6, u8, hlo, Int.cast_ofNat_Int, hn, go_sem, simprocAttr]))
     | with_reducible refine And.intro (by first | omega | (simp only [hgW]; omega)) ?_
     | (exfalso; omega)
    refine AWP.loopX [0, 1, 4, 5, 6, 7, 9, 10] [] (fun i : Nat => St.mk (lk [(0, .ptr 1000000 0), (1, .int .i64 (D : Int)), (4, .ptr 4 0), (5, .int .i64 (k : Int)), (6, .int .i64 (low : Int)), (7, .int .u64 ((be ((b.drop 1).take i) : Nat) : Int)), (9, .int .i64 (z : Int)), (10, .int .i64 (i : Int))])
        (lkB [(1000000, [.sl none false 1 ((b.drop 1).map u8), .int .i64 ((items + 1 : Nat) : Int), .int .i64 0]), (4, [.int .u8 0, .int .u64 0, .sl none true 1 [], .sl none true 4 []])]) (hasS []) (hasS []) (hasN []) (lkR []))
      (fun i => i ≤ z) (fun i => z - i) 0 ?_ (Nat.zero_le _) ?_
    · simp -implicitDefEqProofs only [hz, hlo, List.take_zero, Int.cast_ofNat_Int, hn, go_sem, simprocAttr]
      try rfl
    rintro i hiz
    by_cases hie : i = z
    · rw [hie, hz]
      by_cases hsh : be ((b.drop 1).take z) < B
      · rw [hz, hB] at hsh
        rw [if_pos hsh] at hr
        subst hr
        repeat' first
         | (with_reducible refine markS 32 ?_)
         | with_reducible refine Rl.go (by constructor <;> decide) ?_
         | ((with_reducible first | refine hK _ ?_ | refine hK.1 ?_ | refine hK.2 ?_); clear hK K)
         | ((with_reducible refine condS hK (fun hg => ?_) fun hg => ?_) <;> clear hK K <;> (try simp only [hgW] at hg) <;> try (exfalso; omega))
         | ((with_reducible refine callE_B3 c54 ?_); simp -implicitDefEqProofs only [eqOk_true, RS.cells, RS.fail, zero_av, e1, hlo, u8, Int.cast_ofNat_Int, hn, go_sem, simprocAttr]; (skip; try (simp (disch := omega) only [wrW]; try simp -implicitDefEqProofs only [RS.cells, RS.fail, zero_av, e1, hlo, u8, Int.cast_ofNat_Int, hn, go_sem, simprocAttr])); fail_if_success (with_reducible refine eqOk_mk ?_))
         | ((first | ((with_reducible first | refine Rk.go k43_VsCRef7 (by constructor) ?_ | refine Rd.go 8 k43_VsCRef7 a43_8_VsCRef7 o43_8_VsCRef7 mixed (by constructor) (by kernel_rfl) (by kernel_rfl) ?_ | refine Rd.go 18 k43_VsCRef7 a43_18_VsCRef7 o43_18_VsCRef7 mixed (by constructor) (by kernel_rfl) (by kernel_rfl) ?_); intro K hK) | with_reducible refine Rr.go [] (by constructor) ?_ | (with_reducible refine guardP_split (fun hg => ?_) fun hg => ?_) <;> (try simp only [hg]) <;> (try simp only [hgW] at hg)) <;> simp -implicitDefEqProofs only [RS.cells, RS.fail, zero_av, e1, hlo, u8, Int.cast_ofNat_Int, hn, go_sem, simprocAttr] <;> try (simp (disch := omega) only [wrW]; try simp -implicitDefEqProofs only [RS.cells, RS.fail, zero_av, e1, hlo, u8, Int.cast_ofNat_Int, hn, go_sem, simprocAttr]))
         | with_reducible refine And.intro (by first | omega | (simp only [hgW]; omega)) ?_
         | (exfalso; omega)
      · rw [hz, hB] at hsh
        rw [if_neg hsh] at hr
        subst hr
        repeat' first
         | (with_reducible refine markS 32 ?_)
         | with_reducible refine Rl.go (by constructor <;> decide) ?_
         | ((with_reducible first | refine hK _ ?_ | refine hK.1 ?_ | refine hK.2 ?_); clear hK K)
         | ((with_reducible refine condS hK (fun hg => ?_) fun hg => ?_) <;> clear hK K <;> (try simp only [hgW] at hg) <;> try (exfalso; omega))
         | ((first | ((with_reducible first | refine Rk.go k43_VsCRef7 (by constructor) ?_ | refine Rd.go 8 k43_VsCRef7 a43_8_VsCRef7 o43_8_VsCRef7 mixed (by constructor) (by kernel_rfl) (by kernel_rfl) ?_ | refine Rd.go 18 k43_VsCRef7 a43_18_VsCRef7 o43_18_VsCRef7 mixed (by constructor) (by kernel_rfl) (by kernel_rfl) ?_); intro K hK) | with_reducible refine Rr.go [] (by constructor) ?_ | (with_reducible refine guardP_split (fun hg => ?_) fun hg => ?_) <;> (try simp only [hg]) <;> (try simp only [hgW] at hg)) <;> simp -implicitDefEqProofs only [RS.cells, RS.fail, zero_av, e1, hlo, u8, Int.cast_ofNat_Int, hn, go_sem, simprocAttr] <;> try (simp (disch := omega) only [wrW]; try simp -implicitDefEqProofs only [RS.cells, RS.fail, zero_av, e1, hlo, u8, Int.cast_ofNat_Int, hn, go_sem, simprocAttr]))
         | with_reducible refine And.intro (by first | omega | (simp only [hgW]; omega)) ?_
         | (exfalso; omega)
        unfold MarkP
        refine AWP.slim [0, 1, 4, 5, 7] [] ?_
        simp -implicitDefEqProofs only [Int.cast_ofNat_Int, hn, go_sem, simprocAttr]
        exact T X hX
    · obtain ⟨y, hy⟩ : ∃ y, (b.drop 1).getD i default = y := ⟨_, rfl⟩
      have hi1 : i < (b.drop 1).length := by omega
      have hy1 : b.getD (1 + i) default = y := by rw [← hy, List.getD_eq_getElem?_getD, List.getD_eq_getElem?_getD, List.getElem?_drop]
      have hy2 : b.getD (i + 1) default = y := by rw [Nat.add_comm]; exact hy1
      have hyl := y.toNat_lt
      have hb1 := hbe i (by omega)
      have hb256 : be ((b.drop 1).take i) < 72057594037927936 := Nat.lt_of_lt_of_le hb1 (Nat.le_trans (Nat.pow_le_pow_right (by decide) (show i ≤ 7 by omega)) (by decide))
      repeat' first
       | (with_reducible refine markS 32 ?_)
       | with_reducible refine Rl.go (by constructor <;> decide) ?_
       | ((with_reducible first | refine hK _ ?_ | refine hK.1 ?_ | refine hK.2 ?_); clear hK K)
       | ((with_reducible refine condS hK (fun hg => ?_) fun hg => ?_) <;> clear hK K <;> (try simp only [hgW] at hg) <;> try (exfalso; omega))
       | ((first | ((with_reducible first | refine Rk.go k43_VsCRef7 (by constructor) ?_ | refine Rd.go 8 k43_VsCRef7 a43_8_VsCRef7 o43_8_VsCRef7 mixed (by constructor) (by kernel_rfl) (by kernel_rfl) ?_ | refine Rd.go 18 k43_VsCRef7 a43_18_VsCRef7 o43_18_VsCRef7 mixed (by constructor) (by kernel_rfl) (by kernel_rfl) ?_); intro K hK) | with_reducible refine Rr.go [] (by constructor) ?_ | (with_reducible refine guardP_split (fun hg => ?_) fun hg => ?_) <;> (try simp only [hg]) <;> (try simp only [hgW] at hg)) <;> simp -implicitDefEqProofs only [RS.cells, RS.fail, zero_av, hlo, hz, u8, hy, hy1, hy2, Int.cast_ofNat_Int, hn, go_sem, simprocAttr] <;> try (simp (disch := omega) only [wrW]; try simp -implicitDefEqProofs only [RS.cells, RS.fail, zero_av, hlo, hz, u8, hy, hy1, hy2, Int.cast_ofNat_Int, hn, go_sem, simprocAttr]))
       | with_reducible refine And.intro (by first | omega | (simp only [hgW]; omega)) ?_
       | (exfalso; omega)
      refine ⟨i + 1, ?_, by omega, by omega⟩
      have e9 : ((be ((b.drop 1).take i) : Nat) : Int) * 256 + (y.toNat : Int) = ((be ((b.drop 1).take (i + 1)) : Nat) : Int) := by
        rw [← take_snoc hi1, hy, be_snoc]; simp
      have e2 : (i : Int) + 1 = ((i + 1 : Nat) : Int) := by omega
      rw [e9, e2]
      simp -implicitDefEqProofs only [hz, hlo, Int.cast_ofNat_Int, hn, go_sem, simprocAttr]
      try rfl
end Go.Proofs.YtijcpdgfbboamaaDoor
