/- What the document's item comes to, once its kind and number are known. -/
import Derived.Test.YtijcpdgfbboamaaDoorVsCRef3
import Derived.Test.YtijcpdgfbboamaaDoorVsCItem3
open Go Go.VS
namespace Go.Proofs.YtijcpdgfbboamaaDoor
set_option linter.unusedVariables false
set_option linter.unusedSimpArgs false
set_option maxRecDepth 20000
set_option maxHeartbeats 4000000
/-- What stands behind the first statement. -/
def tl (c : Code) : Code := match c with
  | .seq _ b => b
  | c => c
/-- Where a walk stops. -/
def MarkP (p : Prop) : Prop := p
theorem markS (id : Nat) {P : Program} {X : Ent} {ops : Array Oper} {d : Bool} {x y : Code} {Q : Exit → St → Prop} {st : St} (h : MarkP (AWP P X (.seq (.seq (.region id ops d) x) y) Q st)) : AWP P X (.seq (.seq (.region id ops d) x) y) Q st := h
def GOk (grp : Option (Bool → Nat → RS → CI × RS)) (D : Nat) : Prop :=
  (D = 8 ∧ grp = none) ∨ (D < 8 ∧ ∃ it, KeepsR it ∧ ItROk it (D + 1) ∧ grp = some fun p n s => grpR it p n s [])
def k43_VsCRef4 : List Nat := [0,1,4,5,6,7,8,9,10,11,12,25,34,63,69,81,97,108,138,142,143,147,151,161,181,186,191,195]
def a43_8_VsCRef4 : List Nat := [0,1,3,7,15,31,63,127,0,256,768,1792,3840,7936,16128,32512,255,131071]
def o43_8_VsCRef4 : List Nat := [0,1,2,3,4,5,6,7,8,9,10,11,12,13,14,15,16,17]
def a43_18_VsCRef4 : List Nat := [0,1,3,7,15,31,63,127,7,7,519,1799,3847,8191,16383]
def o43_18_VsCRef4 : List Nat := [0,1,2,3,4,5,6,7,8,9,10,11,12,13,14]
attribute [go_sem] k43_VsCRef4 a43_8_VsCRef4 o43_8_VsCRef4 a43_18_VsCRef4 o43_18_VsCRef4
theorem tail43 (X : Ent) (hX : X.n = 209) {valid : List UInt8 → Bool} (hv : ValidOk valid) (grp : Option (Bool → Nat → RS → CI × RS)) (D : Nat) (hg : GOk grp D) (k n : Nat) (hk : k ≤ 6) (hn64 : n < 18446744073709551616) (b : List UInt8) (items : Nat) (hi : items ≤ 512) (hl : b.length ≤ 100000) :
    AWP Tryd.prog X (tl (tl (tl (tl (tl (tl (tl (tl (tl ((Tryd.f43.body).getD .skip)))))))))) (retSF Tryd.prog Tryd.f43.results.toList 1 (kindR valid grp k n ⟨b, items, 0⟩).1.av [(kindR valid grp k n ⟨b, items, 0⟩).2.cells false])
      (St.mk (lk [(0, .ptr 1000000 0), (1, .int .i64 (D : Int)), (4, .ptr 4 0), (5, .int .i64 (k : Int)), (7, .int .u64 (n : Int))]) (lkB [(1000000, [.sl none false 1 (b.map u8), .int .i64 (items : Int), .int .i64 0]), (4, [.int .u8 0, .int .u64 0, .sl none true 1 [], .sl none true 4 []])]) (hasS []) (hasS []) (hasN []) (lkR [])) := by
  have hn : X.n = 209 := hX
  obtain ⟨r, hr⟩ : ∃ r, kindR valid grp k n ⟨b, items, 0⟩ = r := ⟨_, rfl⟩
  rw [hr]
  unfold kindR at hr
  show AWP Tryd.prog X (tl (tl (tl (tl (tl (tl (tl (tl (tl ((Tryd.f43.body).getD .skip)))))))))) (retSF Tryd.prog Tryd.f43.results.toList 1 r.1.av [r.2.cells false]) _
  unfold Tryd.f43
  dsimp only [tl, Option.getD_some]
  have c54 := f54_ok ⟨b, items, 0⟩ false 20
  rcases (show k = 0 ∨ k = 1 ∨ k = 2 ∨ k = 3 ∨ k = 4 ∨ k = 5 ∨ k = 6 by omega) with rfl | rfl | rfl | rfl | rfl | rfl | rfl
  · simp only [if_true] at hr
    subst hr
    repeat' first
     | with_reducible refine Rl.go (by constructor <;> decide) ?_
     | ((with_reducible first | refine hK _ ?_ | refine hK.1 ?_ | refine hK.2 ?_); clear hK K)
     | ((with_reducible refine condS hK (fun hg => ?_) fun hg => ?_) <;> clear hK K <;> (try simp only [hgW] at hg) <;> try (exfalso; omega))
     | ((first | ((with_reducible first | refine Rk.go k43_VsCRef4 (by constructor) ?_ | refine Rd.go 8 k43_VsCRef4 a43_8_VsCRef4 o43_8_VsCRef4 mixed (by constructor) (by kernel_rfl) (by kernel_rfl) ?_ | refine Rd.go 18 k43_VsCRef4 a43_18_VsCRef4 o43_18_VsCRef4 mixed (by constructor) (by kernel_rfl) (by kernel_rfl) ?_); intro K hK) | with_reducible refine Rr.go [] (by constructor) ?_ | (with_reducible refine guardP_split (fun hg => ?_) fun hg => ?_) <;> (try simp only [hg]) <;> (try simp only [hgW] at hg)) <;> simp -implicitDefEqProofs only [RS.cells, av_mk', zero_av, Int.cast_ofNat_Int, hn, go_sem, simprocAttr] <;> try simp (disch := omega) only [wrW])
     | with_reducible refine And.intro (by first | omega | (simp only [hgW]; omega)) ?_
     | (exfalso; omega)
  · simp at hr
    subst hr
    repeat' first
     | with_reducible refine Rl.go (by constructor <;> decide) ?_
     | ((with_reducible first | refine hK _ ?_ | refine hK.1 ?_ | refine hK.2 ?_); clear hK K)
     | ((with_reducible refine condS hK (fun hg => ?_) fun hg => ?_) <;> clear hK K <;> (try simp only [hgW] at hg) <;> try (exfalso; omega))
     | ((first | ((with_reducible first | refine Rk.go k43_VsCRef4 (by constructor) ?_ | refine Rd.go 8 k43_VsCRef4 a43_8_VsCRef4 o43_8_VsCRef4 mixed (by constructor) (by kernel_rfl) (by kernel_rfl) ?_ | refine Rd.go 18 k43_VsCRef4 a43_18_VsCRef4 o43_18_VsCRef4 mixed (by constructor) (by kernel_rfl) (by kernel_rfl) ?_); intro K hK) | with_reducible refine Rr.go [] (by constructor) ?_ | (with_reducible refine guardP_split (fun hg => ?_) fun hg => ?_) <;> (try simp only [hg]) <;> (try simp only [hgW] at hg)) <;> simp -implicitDefEqProofs only [RS.cells, av_mk', zero_av, Int.cast_ofNat_Int, hn, go_sem, simprocAttr] <;> try simp (disch := omega) only [wrW])
     | with_reducible refine And.intro (by first | omega | (simp only [hgW]; omega)) ?_
     | (exfalso; omega)
  · simp only [show ¬ (2 : Nat) = 0 by decide, show ¬ (2 : Nat) = 1 by decide, if_false, if_true, true_or] at hr
    by_cases hs : b.length < n
    · rw [if_pos hs] at hr
      subst hr
      repeat' first
       | with_reducible refine Rl.go (by constructor <;> decide) ?_
       | ((with_reducible first | refine hK _ ?_ | refine hK.1 ?_ | refine hK.2 ?_); clear hK K)
       | ((with_reducible refine condS hK (fun hg => ?_) fun hg => ?_) <;> clear hK K <;> (try simp only [hgW] at hg) <;> try (exfalso; omega))
       | ((with_reducible refine callE_B3 c54 ?_); simp -implicitDefEqProofs only [eqOk_true, RS.cells, RS.fail, av_mk', zero_av, Int.cast_ofNat_Int, hn, go_sem, simprocAttr]; (skip; try simp (disch := omega) only [wrW]); fail_if_success (with_reducible refine eqOk_mk ?_))
       | ((first | ((with_reducible first | refine Rk.go k43_VsCRef4 (by constructor) ?_ | refine Rd.go 8 k43_VsCRef4 a43_8_VsCRef4 o43_8_VsCRef4 mixed (by constructor) (by kernel_rfl) (by kernel_rfl) ?_ | refine Rd.go 18 k43_VsCRef4 a43_18_VsCRef4 o43_18_VsCRef4 mixed (by constructor) (by kernel_rfl) (by kernel_rfl) ?_); intro K hK) | with_reducible refine Rr.go [] (by constructor) ?_ | (with_reducible refine guardP_split (fun hg => ?_) fun hg => ?_) <;> (try simp only [hg]) <;> (try simp only [hgW] at hg)) <;> simp -implicitDefEqProofs only [RS.cells, RS.fail, av_mk', zero_av, Int.cast_ofNat_Int, hn, go_sem, simprocAttr] <;> try simp (disch := omega) only [wrW])
       | with_reducible refine And.intro (by first | omega | (simp only [hgW]; omega)) ?_
       | (exfalso; omega)
    · rw [if_neg hs] at hr
      subst hr
      repeat' first
       | with_reducible refine Rl.go (by constructor <;> decide) ?_
       | ((with_reducible first | refine hK _ ?_ | refine hK.1 ?_ | refine hK.2 ?_); clear hK K)
       | ((with_reducible refine condS hK (fun hg => ?_) fun hg => ?_) <;> clear hK K <;> (try simp only [hgW] at hg) <;> try (exfalso; omega))
       | ((first | ((with_reducible first | refine Rk.go k43_VsCRef4 (by constructor) ?_ | refine Rd.go 8 k43_VsCRef4 a43_8_VsCRef4 o43_8_VsCRef4 mixed (by constructor) (by kernel_rfl) (by kernel_rfl) ?_ | refine Rd.go 18 k43_VsCRef4 a43_18_VsCRef4 o43_18_VsCRef4 mixed (by constructor) (by kernel_rfl) (by kernel_rfl) ?_); intro K hK) | with_reducible refine Rr.go [] (by constructor) ?_ | (with_reducible refine guardP_split (fun hg => ?_) fun hg => ?_) <;> (try simp only [hg]) <;> (try simp only [hgW] at hg)) <;> simp -implicitDefEqProofs only [RS.cells, av_mk', zero_av, Int.cast_ofNat_Int, hn, go_sem, simprocAttr] <;> try simp (disch := omega) only [wrW])
       | with_reducible refine And.intro (by first | omega | (simp only [hgW]; omega)) ?_
       | (exfalso; omega)
  · simp only [show ¬ (3 : Nat) = 0 by decide, show ¬ (3 : Nat) = 1 by decide, show ¬ (3 : Nat) = 2 by decide, if_false, if_true, or_true] at hr
    by_cases hs : b.length < n
    · rw [if_pos hs] at hr
      subst hr
      repeat' first
       | with_reducible refine Rl.go (by constructor <;> decide) ?_
       | ((with_reducible first | refine hK _ ?_ | refine hK.1 ?_ | refine hK.2 ?_); clear hK K)
       | ((with_reducible refine condS hK (fun hg => ?_) fun hg => ?_) <;> clear hK K <;> (try simp only [hgW] at hg) <;> try (exfalso; omega))
       | ((with_reducible refine callE_B3 c54 ?_); simp -implicitDefEqProofs only [eqOk_true, RS.cells, RS.fail, av_mk', zero_av, Int.cast_ofNat_Int, hn, go_sem, simprocAttr]; (skip; try simp (disch := omega) only [wrW]); fail_if_success (with_reducible refine eqOk_mk ?_))
       | ((first | ((with_reducible first | refine Rk.go k43_VsCRef4 (by constructor) ?_ | refine Rd.go 8 k43_VsCRef4 a43_8_VsCRef4 o43_8_VsCRef4 mixed (by constructor) (by kernel_rfl) (by kernel_rfl) ?_ | refine Rd.go 18 k43_VsCRef4 a43_18_VsCRef4 o43_18_VsCRef4 mixed (by constructor) (by kernel_rfl) (by kernel_rfl) ?_); intro K hK) | with_reducible refine Rr.go [] (by constructor) ?_ | (with_reducible refine guardP_split (fun hg => ?_) fun hg => ?_) <;> (try simp only [hg]) <;> (try simp only [hgW] at hg)) <;> simp -implicitDefEqProofs only [RS.cells, RS.fail, av_mk', zero_av, Int.cast_ofNat_Int, hn, go_sem, simprocAttr] <;> try simp (disch := omega) only [wrW])
       | with_reducible refine And.intro (by first | omega | (simp only [hgW]; omega)) ?_
       | (exfalso; omega)
    · rw [if_neg hs] at hr
      have c44 := hv (b.take n) (by rw [List.length_take]; omega)
      by_cases hva : valid (b.take n) = true
      · rw [if_pos hva] at hr
        rw [hva] at c44
        subst hr
        repeat' first
         | with_reducible refine Rl.go (by constructor <;> decide) ?_
         | ((with_reducible first | refine hK _ ?_ | refine hK.1 ?_ | refine hK.2 ?_); clear hK K)
         | ((with_reducible refine condS hK (fun hg => ?_) fun hg => ?_) <;> clear hK K <;> (try simp only [hgW] at hg) <;> try (exfalso; omega))
         | ((first | ((with_reducible first | refine Rk.go k43_VsCRef4 (by constructor) ?_ | refine Rd.go 8 k43_VsCRef4 a43_8_VsCRef4 o43_8_VsCRef4 mixed (by constructor) (by kernel_rfl) (by kernel_rfl) ?_ | refine Rd.go 18 k43_VsCRef4 a43_18_VsCRef4 o43_18_VsCRef4 mixed (by constructor) (by kernel_rfl) (by kernel_rfl) ?_); intro K hK) | with_reducible refine Rr.go [] (by constructor) ?_ | (with_reducible refine guardP_split (fun hg => ?_) fun hg => ?_) <;> (try simp only [hg]) <;> (try simp only [hgW] at hg) | refine Rc.go c44 (by constructor) ?_) <;> simp -implicitDefEqProofs only [RS.cells, av_mk', zero_av, Int.cast_ofNat_Int, hn, go_sem, simprocAttr] <;> try simp (disch := omega) only [wrW])
         | with_reducible refine And.intro (by first | omega | (simp only [hgW]; omega)) ?_
         | (exfalso; omega)
      · rw [if_neg hva] at hr
        have hva : valid (b.take n) = false := by simpa using hva
        rw [hva] at c44
        have c54' := f54_ok ⟨b.drop n, items, 0⟩ false 23
        subst hr
        repeat' first
         | with_reducible refine Rl.go (by constructor <;> decide) ?_
         | ((with_reducible first | refine hK _ ?_ | refine hK.1 ?_ | refine hK.2 ?_); clear hK K)
         | ((with_reducible refine condS hK (fun hg => ?_) fun hg => ?_) <;> clear hK K <;> (try simp only [hgW] at hg) <;> try (exfalso; omega))
         | ((with_reducible refine callE_B3 (c54') ?_); simp -implicitDefEqProofs only [eqOk_true, RS.cells, RS.fail, av_mk', zero_av, Int.cast_ofNat_Int, hn, go_sem, simprocAttr]; (skip; try simp (disch := omega) only [wrW]); fail_if_success (with_reducible refine eqOk_mk ?_))
         | ((first | ((with_reducible first | refine Rk.go k43_VsCRef4 (by constructor) ?_ | refine Rd.go 8 k43_VsCRef4 a43_8_VsCRef4 o43_8_VsCRef4 mixed (by constructor) (by kernel_rfl) (by kernel_rfl) ?_ | refine Rd.go 18 k43_VsCRef4 a43_18_VsCRef4 o43_18_VsCRef4 mixed (by constructor) (by kernel_rfl) (by kernel_rfl) ?_); intro K hK) | with_reducible refine Rr.go [] (by constructor) ?_ | (with_reducible refine guardP_split (fun hg => ?_) fun hg => ?_) <;> (try simp only [hg]) <;> (try simp only [hgW] at hg) | refine Rc.go c44 (by constructor) ?_) <;> simp -implicitDefEqProofs only [RS.cells, RS.fail, av_mk', zero_av, Int.cast_ofNat_Int, hn, go_sem, simprocAttr] <;> try simp (disch := omega) only [wrW])
         | with_reducible refine And.intro (by first | omega | (simp only [hgW]; omega)) ?_
         | (exfalso; omega)
  · simp only [show ¬ (4 : Nat) = 0 by decide, show ¬ (4 : Nat) = 1 by decide, show ¬ (4 : Nat) = 2 by decide, show ¬ (4 : Nat) = 3 by decide, show ¬ (4 : Nat) = 5 by decide, if_false, if_true, true_or, or_false, decide_false] at hr
    rcases hg with ⟨rfl, rfl⟩ | ⟨hD, it, K, hit, rfl⟩
    · have c54' := f54_ok ⟨b, items, 0⟩ false 13
      simp only at hr
      subst hr
      repeat' first
       | with_reducible refine Rl.go (by constructor <;> decide) ?_
       | ((with_reducible first | refine hK _ ?_ | refine hK.1 ?_ | refine hK.2 ?_); clear hK K)
       | ((with_reducible refine condS hK (fun hg => ?_) fun hg => ?_) <;> clear hK K <;> (try simp only [hgW] at hg) <;> try (exfalso; omega))
       | ((with_reducible refine callE_B3 (c54') ?_); simp -implicitDefEqProofs only [eqOk_true, RS.cells, RS.fail, av_mk', zero_av, Int.cast_ofNat_Int, hn, go_sem, simprocAttr]; (skip; try simp (disch := omega) only [wrW]); fail_if_success (with_reducible refine eqOk_mk ?_))
       | ((first | ((with_reducible first | refine Rk.go k43_VsCRef4 (by constructor) ?_ | refine Rd.go 8 k43_VsCRef4 a43_8_VsCRef4 o43_8_VsCRef4 mixed (by constructor) (by kernel_rfl) (by kernel_rfl) ?_ | refine Rd.go 18 k43_VsCRef4 a43_18_VsCRef4 o43_18_VsCRef4 mixed (by constructor) (by kernel_rfl) (by kernel_rfl) ?_); intro K hK) | with_reducible refine Rr.go [] (by constructor) ?_ | (with_reducible refine guardP_split (fun hg => ?_) fun hg => ?_) <;> (try simp only [hg]) <;> (try simp only [hgW] at hg)) <;> simp -implicitDefEqProofs only [RS.cells, RS.fail, av_mk', zero_av, Int.cast_ofNat_Int, hn, go_sem, simprocAttr] <;> try simp (disch := omega) only [wrW])
       | with_reducible refine And.intro (by first | omega | (simp only [hgW]; omega)) ?_
       | (exfalso; omega)
    · have c55 := f55_a K (D + 1) hit n hn64 ⟨b, items, 0⟩ rfl hi hl
      simp only at hr
      rw [hr] at c55
      obtain ⟨⟨vk, vn, vbn, vb, vkn, vks⟩, ⟨b3, i3, e4⟩⟩ := r
      repeat' first
       | with_reducible refine Rl.go (by constructor <;> decide) ?_
       | ((with_reducible first | refine hK _ ?_ | refine hK.1 ?_ | refine hK.2 ?_); clear hK K)
       | ((with_reducible refine condS hK (fun hg => ?_) fun hg => ?_) <;> clear hK K <;> (try simp only [hgW] at hg) <;> try (exfalso; omega))
       | ((with_reducible refine callE_B3 c55 ?_); simp -implicitDefEqProofs only [eqOk_true, RS.cells, av_mk', zero_av, Int.natCast_add, Int.cast_ofNat_Int, Int.cast_ofNat_Int, hn, go_sem, simprocAttr]; (skip; try simp (disch := omega) only [wrW]); fail_if_success (with_reducible refine eqOk_mk ?_))
       | ((first | ((with_reducible first | refine Rk.go k43_VsCRef4 (by constructor) ?_ | refine Rd.go 8 k43_VsCRef4 a43_8_VsCRef4 o43_8_VsCRef4 mixed (by constructor) (by kernel_rfl) (by kernel_rfl) ?_ | refine Rd.go 18 k43_VsCRef4 a43_18_VsCRef4 o43_18_VsCRef4 mixed (by constructor) (by kernel_rfl) (by kernel_rfl) ?_); intro K hK) | with_reducible refine Rr.go [] (by constructor) ?_ | (with_reducible refine guardP_split (fun hg => ?_) fun hg => ?_) <;> (try simp only [hg]) <;> (try simp only [hgW] at hg)) <;> simp -implicitDefEqProofs only [RS.cells, av_mk', zero_av, Int.natCast_add, Int.cast_ofNat_Int, Int.cast_ofNat_Int, hn, go_sem, simprocAttr] <;> try simp (disch := omega) only [wrW])
       | with_reducible refine And.intro (by first | omega | (simp only [hgW]; omega)) ?_
       | (exfalso; omega)
  · simp only [show ¬ (5 : Nat) = 0 by decide, show ¬ (5 : Nat) = 1 by decide, show ¬ (5 : Nat) = 2 by decide, show ¬ (5 : Nat) = 3 by decide, show ¬ (5 : Nat) = 4 by decide, if_false, if_true, or_true, or_false, decide_true] at hr
    rcases hg with ⟨rfl, rfl⟩ | ⟨hD, it, K, hit, rfl⟩
    · have c54' := f54_ok ⟨b, items, 0⟩ false 13
      simp only at hr
      subst hr
      repeat' first
       | with_reducible refine Rl.go (by constructor <;> decide) ?_
       | ((with_reducible first | refine hK _ ?_ | refine hK.1 ?_ | refine hK.2 ?_); clear hK K)
       | ((with_reducible refine condS hK (fun hg => ?_) fun hg => ?_) <;> clear hK K <;> (try simp only [hgW] at hg) <;> try (exfalso; omega))
       | ((with_reducible refine callE_B3 (c54') ?_); simp -implicitDefEqProofs only [eqOk_true, RS.cells, RS.fail, av_mk', zero_av, Int.cast_ofNat_Int, hn, go_sem, simprocAttr]; (skip; try simp (disch := omega) only [wrW]); fail_if_success (with_reducible refine eqOk_mk ?_))
       | ((first | ((with_reducible first | refine Rk.go k43_VsCRef4 (by constructor) ?_ | refine Rd.go 8 k43_VsCRef4 a43_8_VsCRef4 o43_8_VsCRef4 mixed (by constructor) (by kernel_rfl) (by kernel_rfl) ?_ | refine Rd.go 18 k43_VsCRef4 a43_18_VsCRef4 o43_18_VsCRef4 mixed (by constructor) (by kernel_rfl) (by kernel_rfl) ?_); intro K hK) | with_reducible refine Rr.go [] (by constructor) ?_ | (with_reducible refine guardP_split (fun hg => ?_) fun hg => ?_) <;> (try simp only [hg]) <;> (try simp only [hgW] at hg)) <;> simp -implicitDefEqProofs only [RS.cells, RS.fail, av_mk', zero_av, Int.cast_ofNat_Int, hn, go_sem, simprocAttr] <;> try simp (disch := omega) only [wrW])
       | with_reducible refine And.intro (by first | omega | (simp only [hgW]; omega)) ?_
       | (exfalso; omega)
    · have c55 := f55_b K (D + 1) hit n hn64 ⟨b, items, 0⟩ rfl hi hl
      simp only at hr
      rw [hr] at c55
      obtain ⟨⟨vk, vn, vbn, vb, vkn, vks⟩, ⟨b3, i3, e4⟩⟩ := r
      repeat' first
       | with_reducible refine Rl.go (by constructor <;> decide) ?_
       | ((with_reducible first | refine hK _ ?_ | refine hK.1 ?_ | refine hK.2 ?_); clear hK K)
       | ((with_reducible refine condS hK (fun hg => ?_) fun hg => ?_) <;> clear hK K <;> (try simp only [hgW] at hg) <;> try (exfalso; omega))
       | ((with_reducible refine callE_B3 c55 ?_); simp -implicitDefEqProofs only [eqOk_true, RS.cells, av_mk', zero_av, Int.natCast_add, Int.cast_ofNat_Int, Int.cast_ofNat_Int, hn, go_sem, simprocAttr]; (skip; try simp (disch := omega) only [wrW]); fail_if_success (with_reducible refine eqOk_mk ?_))
       | ((first | ((with_reducible first | refine Rk.go k43_VsCRef4 (by constructor) ?_ | refine Rd.go 8 k43_VsCRef4 a43_8_VsCRef4 o43_8_VsCRef4 mixed (by constructor) (by kernel_rfl) (by kernel_rfl) ?_ | refine Rd.go 18 k43_VsCRef4 a43_18_VsCRef4 o43_18_VsCRef4 mixed (by constructor) (by kernel_rfl) (by kernel_rfl) ?_); intro K hK) | with_reducible refine Rr.go [] (by constructor) ?_ | (with_reducible refine guardP_split (fun hg => ?_) fun hg => ?_) <;> (try simp only [hg]) <;> (try simp only [hgW] at hg)) <;> simp -implicitDefEqProofs only [RS.cells, av_mk', zero_av, Int.natCast_add, Int.cast_ofNat_Int, Int.cast_ofNat_Int, hn, go_sem, simprocAttr] <;> try simp (disch := omega) only [wrW])
       | with_reducible refine And.intro (by first | omega | (simp only [hgW]; omega)) ?_
       | (exfalso; omega)
  · simp only [show ¬ (6 : Nat) = 0 by decide, show ¬ (6 : Nat) = 1 by decide, show ¬ (6 : Nat) = 2 by decide, show ¬ (6 : Nat) = 3 by decide, show ¬ (6 : Nat) = 4 by decide, show ¬ (6 : Nat) = 5 by decide, if_false, or_false] at hr
    subst hr
    repeat' first
     | with_reducible refine Rl.go (by constructor <;> decide) ?_
     | ((with_reducible first | refine hK _ ?_ | refine hK.1 ?_ | refine hK.2 ?_); clear hK K)
     | ((with_reducible refine condS hK (fun hg => ?_) fun hg => ?_) <;> clear hK K <;> (try simp only [hgW] at hg) <;> try (exfalso; omega))
     | ((with_reducible refine callE_B3 c54 ?_); simp -implicitDefEqProofs only [eqOk_true, RS.cells, RS.fail, av_mk', zero_av, Int.cast_ofNat_Int, hn, go_sem, simprocAttr]; (skip; try simp (disch := omega) only [wrW]); fail_if_success (with_reducible refine eqOk_mk ?_))
     | ((first | ((with_reducible first | refine Rk.go k43_VsCRef4 (by constructor) ?_ | refine Rd.go 8 k43_VsCRef4 a43_8_VsCRef4 o43_8_VsCRef4 mixed (by constructor) (by kernel_rfl) (by kernel_rfl) ?_ | refine Rd.go 18 k43_VsCRef4 a43_18_VsCRef4 o43_18_VsCRef4 mixed (by constructor) (by kernel_rfl) (by kernel_rfl) ?_); intro K hK) | with_reducible refine Rr.go [] (by constructor) ?_ | (with_reducible refine guardP_split (fun hg => ?_) fun hg => ?_) <;> (try simp only [hg]) <;> (try simp only [hgW] at hg)) <;> simp -implicitDefEqProofs only [RS.cells, RS.fail, av_mk', zero_av, Int.cast_ofNat_Int, hn, go_sem, simprocAttr] <;> try simp (disch := omega) only [wrW])
     | with_reducible refine And.intro (by first | omega | (simp only [hgW]; omega)) ?_
     | (exfalso; omega)
end Go.Proofs.YtijcpdgfbboamaaDoor
