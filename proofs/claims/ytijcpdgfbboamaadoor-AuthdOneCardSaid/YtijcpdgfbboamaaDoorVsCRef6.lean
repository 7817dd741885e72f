/- What the document's item comes to. -/
import Derived.Test.YtijcpdgfbboamaaDoorVsCRef4
open Go Go.VS
namespace Go.Proofs.YtijcpdgfbboamaaDoor
set_option linter.unusedVariables false
set_option linter.unusedSimpArgs false
set_option maxRecDepth 20000
set_option maxHeartbeats 4000000
def k43_VsCRef5 : List Nat := [0,1,4,5,6,7,8,9,10,11,12,25,34,63,69,81,97,108,138,142,143,147,151,161,181,186,191,195]
def a43_8_VsCRef5 : List Nat := [0,1,3,7,15,31,63,127,0,256,768,1792,3840,7936,16128,32512,255,131071]
def o43_8_VsCRef5 : List Nat := [0,1,2,3,4,5,6,7,8,9,10,11,12,13,14,15,16,17]
def a43_18_VsCRef5 : List Nat := [0,1,3,7,15,31,63,127,7,7,519,1799,3847,8191,16383]
def o43_18_VsCRef5 : List Nat := [0,1,2,3,4,5,6,7,8,9,10,11,12,13,14]
attribute [go_sem] k43_VsCRef5 a43_8_VsCRef5 o43_8_VsCRef5 a43_18_VsCRef5 o43_18_VsCRef5
theorem f43_many (D : Nat) (b : List UInt8) (items : Nat) (nb : Bool) (hi : items ≤ 10000) (hm : 512 < items + 1) :
    CallsB Tryd.prog 43 [.ptr 1000000 0, .int .i64 (D : Int)] [(RS.mk b items 0).cells nb] CI.zero.av [(RS.mk b (items + 1) 14).cells nb] := by
  have c54 := f54_ok ⟨b, items + 1, 0⟩ nb 14
  have e1 : (items : Int) + 1 = ((items + 1 : Nat) : Int) := by omega
  refine CallsB.introF Tryd.func43 rfl (by show 2 ≤ 209; decide) ?_
  rintro X hX
  have hn : X.n = 209 := hX
  unfold Tryd.f43
  dsimp only
  rw [entryB21]
  repeat' first
   | with_reducible refine Rl.go (by constructor <;> decide) ?_
   | ((with_reducible first | refine hK _ ?_ | refine hK.1 ?_ | refine hK.2 ?_); clear hK K)
   | ((with_reducible refine condS hK (fun hg => ?_) fun hg => ?_) <;> clear hK K <;> (try simp only [hgW] at hg) <;> try (exfalso; omega))
   | ((with_reducible refine callE_B3 c54 ?_); simp -implicitDefEqProofs only [eqOk_true, RS.cells, RS.fail, zero_av, e1, Int.cast_ofNat_Int, hn, go_sem, simprocAttr]; (skip; try simp (disch := omega) only [wrW]); fail_if_success (with_reducible refine eqOk_mk ?_))
   | ((first | ((with_reducible first | refine Rk.go k43_VsCRef5 (by constructor) ?_ | refine Rd.go 8 k43_VsCRef5 a43_8_VsCRef5 o43_8_VsCRef5 mixed (by constructor) (by kernel_rfl) (by kernel_rfl) ?_ | refine Rd.go 18 k43_VsCRef5 a43_18_VsCRef5 o43_18_VsCRef5 mixed (by constructor) (by kernel_rfl) (by kernel_rfl) ?_); intro K hK) | with_reducible refine Rr.go [] (by constructor) ?_ | (with_reducible refine guardP_split (fun hg => ?_) fun hg => ?_) <;> (try simp only [hg]) <;> (try simp only [hgW] at hg)) <;> simp -implicitDefEqProofs only [RS.cells, RS.fail, zero_av, e1, Int.cast_ofNat_Int, hn, go_sem, simprocAttr] <;> try simp (disch := omega) only [wrW])
   | with_reducible refine And.intro (by first | omega | (simp only [hgW]; omega)) ?_
   | (exfalso; omega)
theorem f43_nil (D : Nat) (items : Nat) (nb : Bool) (hi : items + 1 ≤ 512) :
    CallsB Tryd.prog 43 [.ptr 1000000 0, .int .i64 (D : Int)] [(RS.mk [] items 0).cells nb] CI.zero.av [(RS.mk [] (items + 1) 20).cells nb] := by
  have c54 := f54_ok ⟨[], items + 1, 0⟩ nb 20
  have e1 : (items : Int) + 1 = ((items + 1 : Nat) : Int) := by omega
  refine CallsB.introF Tryd.func43 rfl (by show 2 ≤ 209; decide) ?_
  rintro X hX
  have hn : X.n = 209 := hX
  unfold Tryd.f43
  dsimp only
  rw [entryB21]
  repeat' first
   | with_reducible refine Rl.go (by constructor <;> decide) ?_
   | ((with_reducible first | refine hK _ ?_ | refine hK.1 ?_ | refine hK.2 ?_); clear hK K)
   | ((with_reducible refine condS hK (fun hg => ?_) fun hg => ?_) <;> clear hK K <;> (try simp only [hgW] at hg) <;> try (exfalso; omega))
   | ((with_reducible refine callE_B3 c54 ?_); simp -implicitDefEqProofs only [eqOk_true, RS.cells, RS.fail, zero_av, e1, Int.cast_ofNat_Int, hn, go_sem, simprocAttr]; (skip; try simp (disch := omega) only [wrW]); fail_if_success (with_reducible refine eqOk_mk ?_))
   | ((first | ((with_reducible first | refine Rk.go k43_VsCRef5 (by constructor) ?_ | refine Rd.go 8 k43_VsCRef5 a43_8_VsCRef5 o43_8_VsCRef5 mixed (by constructor) (by kernel_rfl) (by kernel_rfl) ?_ | refine Rd.go 18 k43_VsCRef5 a43_18_VsCRef5 o43_18_VsCRef5 mixed (by constructor) (by kernel_rfl) (by kernel_rfl) ?_); intro K hK) | with_reducible refine Rr.go [] (by constructor) ?_ | (with_reducible refine guardP_split (fun hg => ?_) fun hg => ?_) <;> (try simp only [hg]) <;> (try simp only [hgW] at hg)) <;> simp -implicitDefEqProofs only [RS.cells, RS.fail, zero_av, e1, Int.cast_ofNat_Int, hn, go_sem, simprocAttr] <;> try simp (disch := omega) only [wrW])
   | with_reducible refine And.intro (by first | omega | (simp only [hgW]; omega)) ?_
   | (exfalso; omega)
theorem f43_7 (D : Nat) (b : List UInt8) (hb : 0 < b.length) (items low : Nat) (hi : items + 1 ≤ 512) (hl : b.length ≤ 100000) (h7 : (b.getD 0 default).toNat / 32 = 7) (hlow : (b.getD 0 default).toNat % 32 = low) (r : CI × RS)
    (hr : (if low < 20 ∨ 22 < low then (CI.zero, (RS.mk (b.drop 1) (items + 1) 20)) else (CI.mk (7 + (low - 20)) 0 true [] true [], RS.mk (b.drop 1) (items + 1) 0)) = r) :
    CallsB Tryd.prog 43 [.ptr 1000000 0, .int .i64 (D : Int)] [(RS.mk b items 0).cells false] r.1.av [r.2.cells false] := by
  have c54 := f54_ok ⟨b.drop 1, items + 1, 0⟩ false 20
  have e1 : (items : Int) + 1 = ((items + 1 : Nat) : Int) := by omega
  have hc := (b.getD 0 default).toNat_lt
  have e5 : Int.tdiv ((b.getD 0 default).toNat : Int) 32 = 7 := by rw [Int.tdiv_eq_ediv_of_nonneg (by omega)]; omega
  have e6 : Int.tmod ((b.getD 0 default).toNat : Int) 32 = (low : Int) := by rw [Int.tmod_eq_emod_of_nonneg (by omega)]; omega
  by_cases hq : low < 20 ∨ 22 < low
  · rw [if_pos hq] at hr
    subst hr
    refine CallsB.introF Tryd.func43 rfl (by show 2 ≤ 209; decide) ?_
    rintro X hX
    have hn : X.n = 209 := hX
    unfold Tryd.f43
    dsimp only
    rw [entryB21]
    repeat' first
     | with_reducible refine Rl.go (by constructor <;> decide) ?_
     | ((with_reducible first | refine hK _ ?_ | refine hK.1 ?_ | refine hK.2 ?_); clear hK K)
     | ((with_reducible refine condS hK (fun hg => ?_) fun hg => ?_) <;> clear hK K <;> (try simp only [hgW] at hg) <;> try (exfalso; omega))
     | ((with_reducible refine callE_B3 c54 ?_); simp -implicitDefEqProofs only [eqOk_true, RS.cells, RS.fail, zero_av, e1, e5, e6, u8, Int.cast_ofNat_Int, hn, go_sem, simprocAttr]; (skip; try simp (disch := omega) only [wrW]); fail_if_success (with_reducible refine eqOk_mk ?_))
     | ((first | ((with_reducible first | refine Rk.go k43_VsCRef5 (by constructor) ?_ | refine Rd.go 8 k43_VsCRef5 a43_8_VsCRef5 o43_8_VsCRef5 mixed (by constructor) (by kernel_rfl) (by kernel_rfl) ?_ | refine Rd.go 18 k43_VsCRef5 a43_18_VsCRef5 o43_18_VsCRef5 mixed (by constructor) (by kernel_rfl) (by kernel_rfl) ?_); intro K hK) | with_reducible refine Rr.go [] (by constructor) ?_ | (with_reducible refine guardP_split (fun hg => ?_) fun hg => ?_) <;> (try simp only [hg]) <;> (try simp only [hgW] at hg)) <;> simp -implicitDefEqProofs only [RS.cells, RS.fail, zero_av, e1, e5, e6, u8, Int.cast_ofNat_Int, hn, go_sem, simprocAttr] <;> try simp (disch := omega) only [wrW])
     | with_reducible refine And.intro (by first | omega | (simp only [hgW]; omega)) ?_
     | (exfalso; omega)
  · rw [if_neg hq] at hr
    subst hr
    have e7 : (low : Int) - 20 + 7 = ((7 + (low - 20) : Nat) : Int) := by omega
    refine CallsB.introF Tryd.func43 rfl (by show 2 ≤ 209; decide) ?_
    rintro X hX
    have hn : X.n = 209 := hX
    unfold Tryd.f43
    dsimp only
    rw [entryB21]
    repeat' first
     | with_reducible refine Rl.go (by constructor <;> decide) ?_
     | ((with_reducible first | refine hK _ ?_ | refine hK.1 ?_ | refine hK.2 ?_); clear hK K)
     | ((with_reducible refine condS hK (fun hg => ?_) fun hg => ?_) <;> clear hK K <;> (try simp only [hgW] at hg) <;> try (exfalso; omega))
     | ((with_reducible refine callE_B3 c54 ?_); simp -implicitDefEqProofs only [eqOk_true, RS.cells, RS.fail, zero_av, av_mk', e1, e5, e6, e7, u8, Int.cast_ofNat_Int, hn, go_sem, simprocAttr]; (skip; try simp (disch := omega) only [wrW]); fail_if_success (with_reducible refine eqOk_mk ?_))
     | ((first | ((with_reducible first | refine Rk.go k43_VsCRef5 (by constructor) ?_ | refine Rd.go 8 k43_VsCRef5 a43_8_VsCRef5 o43_8_VsCRef5 mixed (by constructor) (by kernel_rfl) (by kernel_rfl) ?_ | refine Rd.go 18 k43_VsCRef5 a43_18_VsCRef5 o43_18_VsCRef5 mixed (by constructor) (by kernel_rfl) (by kernel_rfl) ?_); intro K hK) | with_reducible refine Rr.go [] (by constructor) ?_ | (with_reducible refine guardP_split (fun hg => ?_) fun hg => ?_) <;> (try simp only [hg]) <;> (try simp only [hgW] at hg)) <;> simp -implicitDefEqProofs only [RS.cells, RS.fail, zero_av, av_mk', e1, e5, e6, e7, u8, Int.cast_ofNat_Int, hn, go_sem, simprocAttr] <;> try simp (disch := omega) only [wrW])
     | with_reducible refine And.intro (by first | omega | (simp only [hgW]; omega)) ?_
     | (exfalso; omega)
theorem f43_low {valid : List UInt8 → Bool} (hv : ValidOk valid) (grp : Option (Bool → Nat → RS → CI × RS)) (D : Nat) (hg : GOk grp D) (b : List UInt8) (hb : 0 < b.length) (items k low : Nat) (hi : items + 1 ≤ 512) (hl : b.length ≤ 100000) (hk7 : (b.getD 0 default).toNat / 32 = k) (hk : k ≤ 6) (hlow : (b.getD 0 default).toNat % 32 = low) (hl24 : low < 24) :
    CallsB Tryd.prog 43 [.ptr 1000000 0, .int .i64 (D : Int)] [(RS.mk b items 0).cells false] (kindR valid grp k low ⟨b.drop 1, items + 1, 0⟩).1.av [(kindR valid grp k low ⟨b.drop 1, items + 1, 0⟩).2.cells false] := by
  have e1 : (items : Int) + 1 = ((items + 1 : Nat) : Int) := by omega
  have hc := (b.getD 0 default).toNat_lt
  have e5 : Int.tdiv ((b.getD 0 default).toNat : Int) 32 = (k : Int) := by rw [Int.tdiv_eq_ediv_of_nonneg (by omega)]; omega
  have e6 : Int.tmod ((b.getD 0 default).toNat : Int) 32 = (low : Int) := by rw [Int.tmod_eq_emod_of_nonneg (by omega)]; omega
  have hm : (b.drop 1).length ≤ 100000 := by rw [List.length_drop]; omega
  have T := fun (X : Ent) (hX : X.n = 209) => tail43 X hX hv grp D hg k low hk (by omega) (b.drop 1) (items + 1) hi hm
  refine CallsB.introF Tryd.func43 rfl (by show 2 ≤ 209; decide) ?_
  rintro X hX
  have hn : X.n = 209 := hX
  unfold Tryd.f43
  dsimp only
  rw [entryB21]
  repeat' first
   | (with_reducible refine markS 32 ?_)
   | with_reducible refine Rl.go (by constructor <;> decide) ?_
   | ((with_reducible first | refine hK _ ?_ | refine hK.1 ?_ | refine hK.2 ?_); clear hK K)
   | ((with_reducible refine condS hK (fun hg => ?_) fun hg => ?_) <;> clear hK K <;> (try simp only [hgW] at hg) <;> try (exfalso; omega))
   | ((first | ((with_reducible first | refine Rk.go k43_VsCRef5 (by constructor) ?_ | refine Rd.go 8 k43_VsCRef5 a43_8_VsCRef5 o43_8_VsCRef5 mixed (by constructor) (by kernel_rfl) (by kernel_rfl) ?_ | refine Rd.go 18 k43_VsCRef5 a43_18_VsCRef5 o43_18_VsCRef5 mixed (by constructor) (by kernel_rfl) (by kernel_rfl) ?_); intro K hK) | with_reducible refine Rr.go [] (by constructor) ?_ | (with_reducible refine guardP_split (fun hg => ?_) fun hg => ?_) <;> (try simp only [hg]) <;> (try simp only [hgW] at hg)) <;> simp -implicitDefEqProofs only [RS.cells, RS.fail, zero_av, e1, e5, e6, u8, Int.cast_ofNat_Int, hn, go_sem, simprocAttr] <;> try simp (disch := omega) only [wrW])
   | with_reducible refine And.intro (by first | omega | (simp only [hgW]; omega)) ?_
   | (exfalso; omega)
  unfold MarkP
  refine AWP.slim [0, 1, 4, 5, 7] [] ?_
  simp -implicitDefEqProofs only [Int.cast_ofNat_Int, hn, go_sem, simprocAttr]
  exact T X hX
end Go.Proofs.YtijcpdgfbboamaaDoor
open Go Go.VS
namespace Go.Proofs.YtijcpdgfbboamaaDoor
set_option linter.unusedVariables false
set_option linter.unusedSimpArgs false
set_option maxRecDepth 20000
set_option maxHeartbeats 4000000
def k43_VsCRef6 : List Nat := [0,1,4,5,6,7,8,9,10,11,12,25,34,63,69,81,97,108,138,142,143,147,151,161,181,186,191,195]
def a43_8_VsCRef6 : List Nat := [0,1,3,7,15,31,63,127,0,256,768,1792,3840,7936,16128,32512,255,131071]
def o43_8_VsCRef6 : List Nat := [0,1,2,3,4,5,6,7,8,9,10,11,12,13,14,15,16,17]
def a43_18_VsCRef6 : List Nat := [0,1,3,7,15,31,63,127,7,7,519,1799,3847,8191,16383]
def o43_18_VsCRef6 : List Nat := [0,1,2,3,4,5,6,7,8,9,10,11,12,13,14]
attribute [go_sem] k43_VsCRef6 a43_8_VsCRef6 o43_8_VsCRef6 a43_18_VsCRef6 o43_18_VsCRef6
theorem f43_bad (D : Nat) (b : List UInt8) (hb : 0 < b.length) (items k low : Nat) (hi : items + 1 ≤ 512) (hl : b.length ≤ 100000) (hk7 : (b.getD 0 default).toNat / 32 = k) (hk : k ≤ 6) (hlow : (b.getD 0 default).toNat % 32 = low) (hl24 : 24 ≤ low)
    (hbad : 27 < low ∨ (b.drop 1).length < 2 ^ (low - 24)) :
    CallsB Tryd.prog 43 [.ptr 1000000 0, .int .i64 (D : Int)] [(RS.mk b items 0).cells false] CI.zero.av [(RS.mk (b.drop 1) (items + 1) 20).cells false] := by
  have c54 := f54_ok ⟨b.drop 1, items + 1, 0⟩ false 20
  have e1 : (items : Int) + 1 = ((items + 1 : Nat) : Int) := by omega
  have hc := (b.getD 0 default).toNat_lt
  have e5 : Int.tdiv ((b.getD 0 default).toNat : Int) 32 = (k : Int) := by rw [Int.tdiv_eq_ediv_of_nonneg (by omega)]; omega
  have e6 : Int.tmod ((b.getD 0 default).toNat : Int) 32 = (low : Int) := by rw [Int.tmod_eq_emod_of_nonneg (by omega)]; omega
  have hr1l : (b.drop 1).length = b.length - 1 := List.length_drop
  by_cases h27 : 27 < low
  · refine CallsB.introF Tryd.func43 rfl (by show 2 ≤ 209; decide) ?_
    rintro X hX
    have hn : X.n = 209 := hX
    unfold Tryd.f43
    dsimp only
    rw [entryB21]
    repeat' first
     | with_reducible refine Rl.go (by constructor <;> decide) ?_
     | ((with_reducible first | refine hK _ ?_ | refine hK.1 ?_ | refine hK.2 ?_); clear hK K)
     | ((with_reducible refine condS hK (fun hg => ?_) fun hg => ?_) <;> clear hK K <;> (try simp only [hgW] at hg) <;> try (exfalso; omega))
     | ((with_reducible refine callE_B3 c54 ?_); simp -implicitDefEqProofs only [eqOk_true, RS.cells, RS.fail, zero_av, e1, e5, e6, u8, Int.cast_ofNat_Int, hn, go_sem, simprocAttr]; (skip; try (simp (disch := omega) only [wrW]; try simp -implicitDefEqProofs only [RS.cells, RS.fail, zero_av, e1, e5, e6, u8, Int.cast_ofNat_Int, hn, go_sem, simprocAttr])); fail_if_success (with_reducible refine eqOk_mk ?_))
     | ((first | ((with_reducible first | refine Rk.go k43_VsCRef6 (by constructor) ?_ | refine Rd.go 8 k43_VsCRef6 a43_8_VsCRef6 o43_8_VsCRef6 mixed (by constructor) (by kernel_rfl) (by kernel_rfl) ?_ | refine Rd.go 18 k43_VsCRef6 a43_18_VsCRef6 o43_18_VsCRef6 mixed (by constructor) (by kernel_rfl) (by kernel_rfl) ?_); intro K hK) | with_reducible refine Rr.go [] (by constructor) ?_ | (with_reducible refine guardP_split (fun hg => ?_) fun hg => ?_) <;> (try simp only [hg]) <;> (try simp only [hgW] at hg)) <;> simp -implicitDefEqProofs only [RS.cells, RS.fail, zero_av, e1, e5, e6, u8, Int.cast_ofNat_Int, hn, go_sem, simprocAttr] <;> try (simp (disch := omega) only [wrW]; try simp -implicitDefEqProofs only [RS.cells, RS.fail, zero_av, e1, e5, e6, u8, Int.cast_ofNat_Int, hn, go_sem, simprocAttr]))
     | with_reducible refine And.intro (by first | omega | (simp only [hgW]; omega)) ?_
     | (exfalso; omega)
  · have hlen : (b.drop 1).length < 2 ^ (low - 24) := by
      rcases hbad with h | h
      · exact absurd h h27
      · exact h
    rcases (show low = 24 ∨ low = 25 ∨ low = 26 ∨ low = 27 by omega) with rfl | rfl | rfl | rfl
    all_goals
      simp only [Nat.reduceSub, Nat.reducePow] at hlen
      refine CallsB.introF Tryd.func43 rfl (by show 2 ≤ 209; decide) ?_
      rintro X hX
      have hn : X.n = 209 := hX
      unfold Tryd.f43
      dsimp only
      rw [entryB21]
      repeat' first
       | with_reducible refine Rl.go (by constructor <;> decide) ?_
       | ((with_reducible first | refine hK _ ?_ | refine hK.1 ?_ | refine hK.2 ?_); clear hK K)
       | ((with_reducible refine condS hK (fun hg => ?_) fun hg => ?_) <;> clear hK K <;> (try simp only [hgW] at hg) <;> try (exfalso; omega))
       | ((with_reducible refine callE_B3 c54 ?_); simp -implicitDefEqProofs only [eqOk_true, RS.cells, RS.fail, zero_av, e1, e5, e6, u8, Int.cast_ofNat_Int, hn, go_sem, simprocAttr]; (skip; try (simp (disch := omega) only [wrW]; try simp -implicitDefEqProofs only [RS.cells, RS.fail, zero_av, e1, e5, e6, u8, Int.cast_ofNat_Int, hn, go_sem, simprocAttr])); fail_if_success (with_reducible refine eqOk_mk ?_))
       | ((first | ((with_reducible first | refine Rk.go k43_VsCRef6 (by constructor) ?_ | refine Rd.go 8 k43_VsCRef6 a43_8_VsCRef6 o43_8_VsCRef6 mixed (by constructor) (by kernel_rfl) (by kernel_rfl) ?_ | refine Rd.go 18 k43_VsCRef6 a43_18_VsCRef6 o43_18_VsCRef6 mixed (by constructor) (by kernel_rfl) (by kernel_rfl) ?_); intro K hK) | with_reducible refine Rr.go [] (by constructor) ?_ | (with_reducible refine guardP_split (fun hg => ?_) fun hg => ?_) <;> (try simp only [hg]) <;> (try simp only [hgW] at hg)) <;> simp -implicitDefEqProofs only [RS.cells, RS.fail, zero_av, e1, e5, e6, u8, Int.cast_ofNat_Int, hn, go_sem, simprocAttr] <;> try (simp (disch := omega) only [wrW]; try simp -implicitDefEqProofs only [RS.cells, RS.fail, zero_av, e1, e5, e6, u8, Int.cast_ofNat_Int, hn, go_sem, simprocAttr]))
       | with_reducible refine And.intro (by first | omega | (simp only [hgW]; omega)) ?_
       | (exfalso; omega)
end Go.Proofs.YtijcpdgfbboamaaDoor
