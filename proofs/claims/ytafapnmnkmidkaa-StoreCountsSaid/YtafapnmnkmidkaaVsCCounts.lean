/- The law StoreCounts' code answers true. -/
import Derived.Test.YtafapnmnkmidkaaVsCOne
open Go Go.VS
namespace Go.Proofs.Ytafapnmnkmidkaa
set_option linter.unusedVariables false
set_option linter.unusedSimpArgs false
set_option maxRecDepth 20000
set_option maxHeartbeats 4000000
def k8_VsCCounts : List Nat := [0,1,2,3,4,5]
attribute [go_sem] k8_VsCCounts
theorem f8_ok : CallsP Try.prog 8 [] (.bool true) := by
  have e1 : idA [1] = .sl none false 1 [.int .u8 1] := rfl
  have e2 : ([1] : List UInt8).map u8 = [.int .u8 1] := rfl
  have c9 := f9_ok 3
  have c10 := f10_first [1] (by decide) (by decide) 3 5 false (by decide)
  have c11 := f11_one [1] 3 5 3 false false
  have c12 := f12_one [1] (by decide) 3 5 false
  have c26 := f26_one 3 5 [1] false
  rw [show max (5 : Int) 3 = 5 by decide] at c11
  rw [e1] at c10 c11 c12 c26
  rw [e2] at c12
  unfold crL at c10 c11 c12 c26
  refine CallsP.intro Try.func8 rfl (by show 0 ≤ 39; decide) ?_
  rintro X hX
  have hn : X.n = 39 := hX
  unfold Try.f8
  dsimp only
  rw [entry0]
  repeat' first
   | with_reducible refine Rl.go (by constructor <;> decide) ?_
   | ((with_reducible first | refine hK _ ?_ | refine hK.1 ?_ | refine hK.2 ?_); clear hK K)
   | ((with_reducible refine condS hK (fun hg => ?_) fun hg => ?_) <;> clear hK K <;> (try simp only [hgW] at hg) <;> try (exfalso; omega))
   | ((with_reducible refine callE_B3 c9 ?_); simp -implicitDefEqProofs only [eqOk_true, List.getElem?_nil, hn, go_sem, simprocAttr]; (skip; try (simp (disch := omega) only [wrW]; try simp -implicitDefEqProofs only [List.getElem?_nil, hn, go_sem, simprocAttr])); fail_if_success (with_reducible refine eqOk_mk ?_))
   | ((with_reducible refine callE_B3 c10 ?_); simp -implicitDefEqProofs only [eqOk_true, List.getElem?_nil, hn, go_sem, simprocAttr]; (skip; try (simp (disch := omega) only [wrW]; try simp -implicitDefEqProofs only [List.getElem?_nil, hn, go_sem, simprocAttr])); fail_if_success (with_reducible refine eqOk_mk ?_))
   | ((with_reducible refine callE_B3 c11 ?_); simp -implicitDefEqProofs only [eqOk_true, List.getElem?_nil, hn, go_sem, simprocAttr]; (skip; try (simp (disch := omega) only [wrW]; try simp -implicitDefEqProofs only [List.getElem?_nil, hn, go_sem, simprocAttr])); fail_if_success (with_reducible refine eqOk_mk ?_))
   | ((with_reducible refine callE_B3 c12 ?_); simp -implicitDefEqProofs only [eqOk_true, List.getElem?_nil, hn, go_sem, simprocAttr]; (skip; try (simp (disch := omega) only [wrW]; try simp -implicitDefEqProofs only [List.getElem?_nil, hn, go_sem, simprocAttr])); fail_if_success (with_reducible refine eqOk_mk ?_))
   | ((with_reducible refine callE_B3 c26 ?_); simp -implicitDefEqProofs only [eqOk_true, List.getElem?_nil, hn, go_sem, simprocAttr]; (skip; try (simp (disch := omega) only [wrW]; try simp -implicitDefEqProofs only [List.getElem?_nil, hn, go_sem, simprocAttr])); fail_if_success (with_reducible refine eqOk_mk ?_))
   | ((first | ((with_reducible first | refine Rk.go k8_VsCCounts (by constructor) ?_); intro K hK) | with_reducible refine Rr.go [] (by constructor) ?_ | (with_reducible refine guardP_split (fun hg => ?_) fun hg => ?_) <;> (try simp only [hg]) <;> (try simp only [hgW] at hg)) <;> simp -implicitDefEqProofs only [List.getElem?_nil, hn, go_sem, simprocAttr] <;> try (simp (disch := omega) only [wrW]; try simp -implicitDefEqProofs only [List.getElem?_nil, hn, go_sem, simprocAttr]))
   | with_reducible refine And.intro (by first | omega | (simp only [hgW]; omega)) ?_
   | (exfalso; omega)
  all_goals trace_state
def k3_VsCCounts : List Nat := [0,1,2,6,7,8,9,10,11,12,13,14,15,17,24,26,27,28,29,34,80]
attribute [go_sem] k3_VsCCounts
theorem f3_ok (cnt : UInt32) (nc : Bool) (cs : List UInt32) (nf : Bool) (fs : List Bool) : CallsP Try.prog 3 [.int .u32 cnt.toNat, .sl none nc 1 (cs.map fun c => .int .u32 (c.toNat : Int)), .sl none nf 1 (fs.map .bool)] (.bool true) := by
  have e1 : idA [7] = .sl none false 1 [.int .u8 7] := rfl
  have e2 : ([7] : List UInt8).map u8 = [.int .u8 7] := rfl
  have hcnt := cnt.toNat_lt
  have c9 := f9_ok 1
  have c10 := f10_first [7] (by decide) (by decide) 1 cnt.toNat false (by decide)
  rw [e1] at c10
  unfold crL at c10
  refine CallsP.intro Try.func3 rfl (by show 3 ≤ 82; decide) ?_
  rintro X hX
  have hn : X.n = 82 := hX
  unfold Try.f3
  dsimp only
  rw [entry3]
  repeat' first
   | with_reducible refine Rl.go (by constructor <;> decide) ?_
   | ((with_reducible first | refine hK _ ?_ | refine hK.1 ?_ | refine hK.2 ?_); clear hK K)
   | ((with_reducible refine condS hK (fun hg => ?_) fun hg => ?_) <;> clear hK K <;> (try simp only [hgW] at hg) <;> try (exfalso; omega))
   | ((with_reducible refine callE_B3 c9 ?_); simp -implicitDefEqProofs only [eqOk_true, Int.cast_ofNat_Int, List.getElem?_nil, hn, go_sem, simprocAttr]; (skip; try (simp (disch := omega) only [wrW]; try simp -implicitDefEqProofs only [Int.cast_ofNat_Int, List.getElem?_nil, hn, go_sem, simprocAttr])); fail_if_success (with_reducible refine eqOk_mk ?_))
   | ((with_reducible refine callE_B3 c10 ?_); simp -implicitDefEqProofs only [eqOk_true, Int.cast_ofNat_Int, List.getElem?_nil, hn, go_sem, simprocAttr]; (skip; try (simp (disch := omega) only [wrW]; try simp -implicitDefEqProofs only [Int.cast_ofNat_Int, List.getElem?_nil, hn, go_sem, simprocAttr])); fail_if_success (with_reducible refine eqOk_mk ?_))
   | ((first | ((with_reducible first | refine Rk.go k3_VsCCounts (by constructor) ?_); intro K hK) | with_reducible refine Rr.go [] (by constructor) ?_ | (with_reducible refine guardP_split (fun hg => ?_) fun hg => ?_) <;> (try simp only [hg]) <;> (try simp only [hgW] at hg) | refine Rc.go f8_ok (by constructor) ?_) <;> simp -implicitDefEqProofs only [Int.cast_ofNat_Int, List.getElem?_nil, hn, go_sem, simprocAttr] <;> try (simp (disch := omega) only [wrW]; try simp -implicitDefEqProofs only [Int.cast_ofNat_Int, List.getElem?_nil, hn, go_sem, simprocAttr]))
   | with_reducible refine And.intro (by first | omega | (simp only [hgW]; omega)) ?_
   | (exfalso; omega)
  refine AWP.loopX [2, 7, 8, 9, 26, 27, 28] [14] (fun x : Nat × Int × Bool => St.mk (lk [(2, .sl none nf 1 (fs.map .bool)), (7, .ptr 100180 0), (8, .int .u32 x.2.1), (9, .bool x.2.2), (26, .sl none nc 1 (cs.map fun c => .int .u32 (c.toNat : Int))), (27, .int .i64 (cs.length : Int)), (28, .int .i64 (x.1 : Int))])
    (lkB [(100180, [.int .i64 1, .sl (some ((0, 1000023), 0)) false 12 [.agg [.sl none false 1 [.int .u8 7], .str [117], .int .u8 0, .int .i64 0, .sl none true 1 [], .sl none true 1 [], .bool false, .sl none true 1 [], .sl none true 1 [], .int .u32 x.2.1, .int .u8 0, .bool x.2.2]]])]) (hasS []) (hasS []) (hasN []) (lkR []))
    (fun x => x.1 ≤ cs.length ∧ 0 ≤ x.2.1 ∧ x.2.1 ≤ 4294967295) (fun x => cs.length - x.1) (0, (cnt.toNat : Int), false) ?_ ⟨by simp, by simp, by simp; omega⟩ ?_
  · simp -implicitDefEqProofs only [Int.cast_ofNat_Int, List.getElem?_nil, hn, go_sem, simprocAttr]
    try rfl
  · rintro ⟨i, m, f⟩ ⟨h1, h2, h3⟩
    by_cases hi : i < cs.length
    · obtain ⟨c, hc⟩ : ∃ c, cs.getD i default = c := ⟨_, rfl⟩
      have hcl := c.toNat_lt
      have hm : max m (c.toNat : Int) = (if m < (c.toNat : Int) then (c.toNat : Int) else m) := by split <;> omega
      simp only at h1 h2 h3
      by_cases hj : i < fs.length
      · obtain ⟨b, hb⟩ : ∃ b, fs.getD i default = b := ⟨_, rfl⟩
        have c11 := f11_one [7] 1 m c.toNat f b
        have c12 := f12_one [7] (by decide) 1 (if m < (c.toNat : Int) then (c.toNat : Int) else m) (f || b)
        rw [e1] at c11 c12
        rw [hm] at c11
        rw [e2] at c12
        unfold crL at c11 c12
        cases f <;> cases b
        · skip
          simp only [Bool.or_false, Bool.or_true, Bool.false_or, Bool.true_or] at c11 c12
          repeat' first
           | with_reducible refine Rl.go (by constructor <;> decide) ?_
           | ((with_reducible first | refine hK _ ?_ | refine hK.1 ?_ | refine hK.2 ?_); clear hK K)
           | ((with_reducible refine condS hK (fun hg => ?_) fun hg => ?_) <;> clear hK K <;> (try simp only [hgW] at hg) <;> try (exfalso; omega))
           | ((with_reducible refine callE_B3 c11 ?_); simp -implicitDefEqProofs only [eqOk_true, hc, hb, Int.cast_ofNat_Int, List.getElem?_nil, hn, go_sem, simprocAttr]; (skip; try (simp (disch := omega) only [wrW]; try simp -implicitDefEqProofs only [hc, hb, Int.cast_ofNat_Int, List.getElem?_nil, hn, go_sem, simprocAttr])); fail_if_success (with_reducible refine eqOk_mk ?_))
           | ((with_reducible refine callE_B3 c12 ?_); simp -implicitDefEqProofs only [eqOk_true, hc, hb, Int.cast_ofNat_Int, List.getElem?_nil, hn, go_sem, simprocAttr]; (skip; try (simp (disch := omega) only [wrW]; try simp -implicitDefEqProofs only [hc, hb, Int.cast_ofNat_Int, List.getElem?_nil, hn, go_sem, simprocAttr])); fail_if_success (with_reducible refine eqOk_mk ?_))
           | ((first | ((with_reducible first | refine Rk.go k3_VsCCounts (by constructor) ?_); intro K hK) | with_reducible refine Rr.go [] (by constructor) ?_ | (with_reducible refine guardP_split (fun hg => ?_) fun hg => ?_) <;> (try simp only [hg]) <;> (try simp only [hgW] at hg)) <;> simp -implicitDefEqProofs only [hc, hb, Int.cast_ofNat_Int, List.getElem?_nil, hn, go_sem, simprocAttr] <;> try (simp (disch := omega) only [wrW]; try simp -implicitDefEqProofs only [hc, hb, Int.cast_ofNat_Int, List.getElem?_nil, hn, go_sem, simprocAttr]))
           | with_reducible refine And.intro (by first | omega | (simp only [hgW]; omega)) ?_
           | (exfalso; omega)
          refine ⟨(i + 1, (if m < (c.toNat : Int) then (c.toNat : Int) else m), false), ?_, ⟨by simp only; omega, by simp only; split <;> omega, by simp only at h3 ⊢; split <;> omega⟩, by simp only; omega⟩
          simp -implicitDefEqProofs only [Int.cast_ofNat_Int, List.getElem?_nil, hn, go_sem, simprocAttr]
          try rfl
        · skip
          simp only [Bool.or_false, Bool.or_true, Bool.false_or, Bool.true_or] at c11 c12
          repeat' first
           | with_reducible refine Rl.go (by constructor <;> decide) ?_
           | ((with_reducible first | refine hK _ ?_ | refine hK.1 ?_ | refine hK.2 ?_); clear hK K)
           | ((with_reducible refine condS hK (fun hg => ?_) fun hg => ?_) <;> clear hK K <;> (try simp only [hgW] at hg) <;> try (exfalso; omega))
           | ((with_reducible refine callE_B3 c11 ?_); simp -implicitDefEqProofs only [eqOk_true, hc, hb, Int.cast_ofNat_Int, List.getElem?_nil, hn, go_sem, simprocAttr]; (skip; try (simp (disch := omega) only [wrW]; try simp -implicitDefEqProofs only [hc, hb, Int.cast_ofNat_Int, List.getElem?_nil, hn, go_sem, simprocAttr])); fail_if_success (with_reducible refine eqOk_mk ?_))
           | ((with_reducible refine callE_B3 c12 ?_); simp -implicitDefEqProofs only [eqOk_true, hc, hb, Int.cast_ofNat_Int, List.getElem?_nil, hn, go_sem, simprocAttr]; (skip; try (simp (disch := omega) only [wrW]; try simp -implicitDefEqProofs only [hc, hb, Int.cast_ofNat_Int, List.getElem?_nil, hn, go_sem, simprocAttr])); fail_if_success (with_reducible refine eqOk_mk ?_))
           | ((first | ((with_reducible first | refine Rk.go k3_VsCCounts (by constructor) ?_); intro K hK) | with_reducible refine Rr.go [] (by constructor) ?_ | (with_reducible refine guardP_split (fun hg => ?_) fun hg => ?_) <;> (try simp only [hg]) <;> (try simp only [hgW] at hg)) <;> simp -implicitDefEqProofs only [hc, hb, Int.cast_ofNat_Int, List.getElem?_nil, hn, go_sem, simprocAttr] <;> try (simp (disch := omega) only [wrW]; try simp -implicitDefEqProofs only [hc, hb, Int.cast_ofNat_Int, List.getElem?_nil, hn, go_sem, simprocAttr]))
           | with_reducible refine And.intro (by first | omega | (simp only [hgW]; omega)) ?_
           | (exfalso; omega)
          refine ⟨(i + 1, (if m < (c.toNat : Int) then (c.toNat : Int) else m), true), ?_, ⟨by simp only; omega, by simp only; split <;> omega, by simp only at h3 ⊢; split <;> omega⟩, by simp only; omega⟩
          simp -implicitDefEqProofs only [Int.cast_ofNat_Int, List.getElem?_nil, hn, go_sem, simprocAttr]
          try rfl
        · skip
          simp only [Bool.or_false, Bool.or_true, Bool.false_or, Bool.true_or] at c11 c12
          repeat' first
           | with_reducible refine Rl.go (by constructor <;> decide) ?_
           | ((with_reducible first | refine hK _ ?_ | refine hK.1 ?_ | refine hK.2 ?_); clear hK K)
           | ((with_reducible refine condS hK (fun hg => ?_) fun hg => ?_) <;> clear hK K <;> (try simp only [hgW] at hg) <;> try (exfalso; omega))
           | ((with_reducible refine callE_B3 c11 ?_); simp -implicitDefEqProofs only [eqOk_true, hc, hb, Int.cast_ofNat_Int, List.getElem?_nil, hn, go_sem, simprocAttr]; (skip; try (simp (disch := omega) only [wrW]; try simp -implicitDefEqProofs only [hc, hb, Int.cast_ofNat_Int, List.getElem?_nil, hn, go_sem, simprocAttr])); fail_if_success (with_reducible refine eqOk_mk ?_))
           | ((with_reducible refine callE_B3 c12 ?_); simp -implicitDefEqProofs only [eqOk_true, hc, hb, Int.cast_ofNat_Int, List.getElem?_nil, hn, go_sem, simprocAttr]; (skip; try (simp (disch := omega) only [wrW]; try simp -implicitDefEqProofs only [hc, hb, Int.cast_ofNat_Int, List.getElem?_nil, hn, go_sem, simprocAttr])); fail_if_success (with_reducible refine eqOk_mk ?_))
           | ((first | ((with_reducible first | refine Rk.go k3_VsCCounts (by constructor) ?_); intro K hK) | with_reducible refine Rr.go [] (by constructor) ?_ | (with_reducible refine guardP_split (fun hg => ?_) fun hg => ?_) <;> (try simp only [hg]) <;> (try simp only [hgW] at hg)) <;> simp -implicitDefEqProofs only [hc, hb, Int.cast_ofNat_Int, List.getElem?_nil, hn, go_sem, simprocAttr] <;> try (simp (disch := omega) only [wrW]; try simp -implicitDefEqProofs only [hc, hb, Int.cast_ofNat_Int, List.getElem?_nil, hn, go_sem, simprocAttr]))
           | with_reducible refine And.intro (by first | omega | (simp only [hgW]; omega)) ?_
           | (exfalso; omega)
          refine ⟨(i + 1, (if m < (c.toNat : Int) then (c.toNat : Int) else m), true), ?_, ⟨by simp only; omega, by simp only; split <;> omega, by simp only at h3 ⊢; split <;> omega⟩, by simp only; omega⟩
          simp -implicitDefEqProofs only [Int.cast_ofNat_Int, List.getElem?_nil, hn, go_sem, simprocAttr]
          try rfl
        · skip
          simp only [Bool.or_false, Bool.or_true, Bool.false_or, Bool.true_or] at c11 c12
          repeat' first
           | with_reducible refine Rl.go (by constructor <;> decide) ?_
           | ((with_reducible first | refine hK _ ?_ | refine hK.1 ?_ | refine hK.2 ?_); clear hK K)
           | ((with_reducible refine condS hK (fun hg => ?_) fun hg => ?_) <;> clear hK K <;> (try simp only [hgW] at hg) <;> try (exfalso; omega))
           | ((with_reducible refine callE_B3 c11 ?_); simp -implicitDefEqProofs only [eqOk_true, hc, hb, Int.cast_ofNat_Int, List.getElem?_nil, hn, go_sem, simprocAttr]; (skip; try (simp (disch := omega) only [wrW]; try simp -implicitDefEqProofs only [hc, hb, Int.cast_ofNat_Int, List.getElem?_nil, hn, go_sem, simprocAttr])); fail_if_success (with_reducible refine eqOk_mk ?_))
           | ((with_reducible refine callE_B3 c12 ?_); simp -implicitDefEqProofs only [eqOk_true, hc, hb, Int.cast_ofNat_Int, List.getElem?_nil, hn, go_sem, simprocAttr]; (skip; try (simp (disch := omega) only [wrW]; try simp -implicitDefEqProofs only [hc, hb, Int.cast_ofNat_Int, List.getElem?_nil, hn, go_sem, simprocAttr])); fail_if_success (with_reducible refine eqOk_mk ?_))
           | ((first | ((with_reducible first | refine Rk.go k3_VsCCounts (by constructor) ?_); intro K hK) | with_reducible refine Rr.go [] (by constructor) ?_ | (with_reducible refine guardP_split (fun hg => ?_) fun hg => ?_) <;> (try simp only [hg]) <;> (try simp only [hgW] at hg)) <;> simp -implicitDefEqProofs only [hc, hb, Int.cast_ofNat_Int, List.getElem?_nil, hn, go_sem, simprocAttr] <;> try (simp (disch := omega) only [wrW]; try simp -implicitDefEqProofs only [hc, hb, Int.cast_ofNat_Int, List.getElem?_nil, hn, go_sem, simprocAttr]))
           | with_reducible refine And.intro (by first | omega | (simp only [hgW]; omega)) ?_
           | (exfalso; omega)
          refine ⟨(i + 1, (if m < (c.toNat : Int) then (c.toNat : Int) else m), true), ?_, ⟨by simp only; omega, by simp only; split <;> omega, by simp only at h3 ⊢; split <;> omega⟩, by simp only; omega⟩
          simp -implicitDefEqProofs only [Int.cast_ofNat_Int, List.getElem?_nil, hn, go_sem, simprocAttr]
          try rfl
      · skip
        have c11 := f11_one [7] 1 m c.toNat f false
        have c12 := f12_one [7] (by decide) 1 (if m < (c.toNat : Int) then (c.toNat : Int) else m) (f || false)
        rw [e1] at c11 c12
        rw [hm] at c11
        rw [e2] at c12
        unfold crL at c11 c12
        cases f
        · skip
          simp only [Bool.or_false, Bool.or_true, Bool.false_or, Bool.true_or] at c11 c12
          repeat' first
           | with_reducible refine Rl.go (by constructor <;> decide) ?_
           | ((with_reducible first | refine hK _ ?_ | refine hK.1 ?_ | refine hK.2 ?_); clear hK K)
           | ((with_reducible refine condS hK (fun hg => ?_) fun hg => ?_) <;> clear hK K <;> (try simp only [hgW] at hg) <;> try (exfalso; omega))
           | ((with_reducible refine callE_B3 c11 ?_); simp -implicitDefEqProofs only [eqOk_true, hc, Int.cast_ofNat_Int, List.getElem?_nil, hn, go_sem, simprocAttr]; (skip; try (simp (disch := omega) only [wrW]; try simp -implicitDefEqProofs only [hc, Int.cast_ofNat_Int, List.getElem?_nil, hn, go_sem, simprocAttr])); fail_if_success (with_reducible refine eqOk_mk ?_))
           | ((with_reducible refine callE_B3 c12 ?_); simp -implicitDefEqProofs only [eqOk_true, hc, Int.cast_ofNat_Int, List.getElem?_nil, hn, go_sem, simprocAttr]; (skip; try (simp (disch := omega) only [wrW]; try simp -implicitDefEqProofs only [hc, Int.cast_ofNat_Int, List.getElem?_nil, hn, go_sem, simprocAttr])); fail_if_success (with_reducible refine eqOk_mk ?_))
           | ((first | ((with_reducible first | refine Rk.go k3_VsCCounts (by constructor) ?_); intro K hK) | with_reducible refine Rr.go [] (by constructor) ?_ | (with_reducible refine guardP_split (fun hg => ?_) fun hg => ?_) <;> (try simp only [hg]) <;> (try simp only [hgW] at hg)) <;> simp -implicitDefEqProofs only [hc, Int.cast_ofNat_Int, List.getElem?_nil, hn, go_sem, simprocAttr] <;> try (simp (disch := omega) only [wrW]; try simp -implicitDefEqProofs only [hc, Int.cast_ofNat_Int, List.getElem?_nil, hn, go_sem, simprocAttr]))
           | with_reducible refine And.intro (by first | omega | (simp only [hgW]; omega)) ?_
           | (exfalso; omega)
          refine ⟨(i + 1, (if m < (c.toNat : Int) then (c.toNat : Int) else m), false), ?_, ⟨by simp only; omega, by simp only; split <;> omega, by simp only at h3 ⊢; split <;> omega⟩, by simp only; omega⟩
          simp -implicitDefEqProofs only [Int.cast_ofNat_Int, List.getElem?_nil, hn, go_sem, simprocAttr]
          try rfl
        · skip
          simp only [Bool.or_false, Bool.or_true, Bool.false_or, Bool.true_or] at c11 c12
          repeat' first
           | with_reducible refine Rl.go (by constructor <;> decide) ?_
           | ((with_reducible first | refine hK _ ?_ | refine hK.1 ?_ | refine hK.2 ?_); clear hK K)
           | ((with_reducible refine condS hK (fun hg => ?_) fun hg => ?_) <;> clear hK K <;> (try simp only [hgW] at hg) <;> try (exfalso; omega))
           | ((with_reducible refine callE_B3 c11 ?_); simp -implicitDefEqProofs only [eqOk_true, hc, Int.cast_ofNat_Int, List.getElem?_nil, hn, go_sem, simprocAttr]; (skip; try (simp (disch := omega) only [wrW]; try simp -implicitDefEqProofs only [hc, Int.cast_ofNat_Int, List.getElem?_nil, hn, go_sem, simprocAttr])); fail_if_success (with_reducible refine eqOk_mk ?_))
           | ((with_reducible refine callE_B3 c12 ?_); simp -implicitDefEqProofs only [eqOk_true, hc, Int.cast_ofNat_Int, List.getElem?_nil, hn, go_sem, simprocAttr]; (skip; try (simp (disch := omega) only [wrW]; try simp -implicitDefEqProofs only [hc, Int.cast_ofNat_Int, List.getElem?_nil, hn, go_sem, simprocAttr])); fail_if_success (with_reducible refine eqOk_mk ?_))
           | ((first | ((with_reducible first | refine Rk.go k3_VsCCounts (by constructor) ?_); intro K hK) | with_reducible refine Rr.go [] (by constructor) ?_ | (with_reducible refine guardP_split (fun hg => ?_) fun hg => ?_) <;> (try simp only [hg]) <;> (try simp only [hgW] at hg)) <;> simp -implicitDefEqProofs only [hc, Int.cast_ofNat_Int, List.getElem?_nil, hn, go_sem, simprocAttr] <;> try (simp (disch := omega) only [wrW]; try simp -implicitDefEqProofs only [hc, Int.cast_ofNat_Int, List.getElem?_nil, hn, go_sem, simprocAttr]))
           | with_reducible refine And.intro (by first | omega | (simp only [hgW]; omega)) ?_
           | (exfalso; omega)
          refine ⟨(i + 1, (if m < (c.toNat : Int) then (c.toNat : Int) else m), true), ?_, ⟨by simp only; omega, by simp only; split <;> omega, by simp only at h3 ⊢; split <;> omega⟩, by simp only; omega⟩
          simp -implicitDefEqProofs only [Int.cast_ofNat_Int, List.getElem?_nil, hn, go_sem, simprocAttr]
          try rfl
    · skip
      repeat' first
       | with_reducible refine Rl.go (by constructor <;> decide) ?_
       | ((with_reducible first | refine hK _ ?_ | refine hK.1 ?_ | refine hK.2 ?_); clear hK K)
       | ((with_reducible refine condS hK (fun hg => ?_) fun hg => ?_) <;> clear hK K <;> (try simp only [hgW] at hg) <;> try (exfalso; omega))
       | ((first | ((with_reducible first | refine Rk.go k3_VsCCounts (by constructor) ?_); intro K hK) | with_reducible refine Rr.go [] (by constructor) ?_ | (with_reducible refine guardP_split (fun hg => ?_) fun hg => ?_) <;> (try simp only [hg]) <;> (try simp only [hgW] at hg)) <;> simp -implicitDefEqProofs only [Int.cast_ofNat_Int, List.getElem?_nil, hn, go_sem, simprocAttr] <;> try (simp (disch := omega) only [wrW]; try simp -implicitDefEqProofs only [Int.cast_ofNat_Int, List.getElem?_nil, hn, go_sem, simprocAttr]))
       | with_reducible refine And.intro (by first | omega | (simp only [hgW]; omega)) ?_
       | (exfalso; omega)
end Go.Proofs.Ytafapnmnkmidkaa
