/- The laws AuthdParses' and AuthdFlags' code answers true. -/
import Derived.Test.YtijcpdgfbboamaaDoorVsDTold
import Derived.Test.YtijcpdgfbboamaaDoorVsDWrS
open Go Go.VS
namespace Go.Proofs.YtijcpdgfbboamaaDoor
set_option linter.unusedVariables false
set_option linter.unusedSimpArgs false
set_option maxRecDepth 20000
set_option maxHeartbeats 4000000
def k22_VsDLaw : List Nat := [0,1,2,4]
attribute [go_sem] k22_VsDLaw
theorem f22_ok {valid : List UInt8 → Bool} (hv : ValidOk valid) : CallsP Tryd.prog 22 [] (.bool true) := by
  have c1 := f24_ok hv false (z32 ++ [5, 0, 0, 0, 7]) (fun h => by cases h) (by decide)
  have c2 := f24_ok hv false (z32 ++ [7, 0, 0, 0, 7]) (fun h => by cases h) (by decide)
  have e1 : authS valid (z32 ++ [5, 0, 0, 0, 7]) = (⟨z32, true, true, false, 7, z16, true, [], .zero, .zero⟩, 0) := rfl
  have e2 : authS valid (z32 ++ [7, 0, 0, 0, 7]) = (.zero, 60) := rfl
  rw [e1] at c1
  rw [e2] at c2
  simp only [AD.av, AD.cells, AD.zero, z32_u8, z16_u8, cs_zero, List.cons_append, List.nil_append, List.map_append, List.map_nil] at c1 c2
  refine CallsP.intro Tryd.func22 rfl (by show 0 ≤ 43; decide) ?_
  rintro X hX
  have hn : X.n = 43 := hX
  unfold Tryd.f22
  dsimp only
  rw [entry0]
  repeat' first
   | with_reducible refine Rl.go (by constructor <;> decide) ?_
   | ((with_reducible first | refine hK _ ?_ | refine hK.1 ?_ | refine hK.2 ?_); clear hK K)
   | ((with_reducible refine condS hK (fun hg => ?_) fun hg => ?_) <;> clear hK K <;> (try simp only [hgW] at hg) <;> try (exfalso; omega))
   | ((first | ((with_reducible first | refine Rk.go k22_VsDLaw (by constructor) ?_); intro K hK) | with_reducible refine Rr.go [] (by constructor) ?_ | (with_reducible refine guardP_split (fun hg => ?_) fun hg => ?_) <;> (try simp only [hg]) <;> (try simp only [hgW] at hg) | refine Rc.go c1 (by constructor) ?_ | refine Rc.go c2 (by constructor) ?_) <;> simp -implicitDefEqProofs only [Int.cast_ofNat_Int, hn, go_sem, simprocAttr] <;> try (simp (disch := omega) only [wrW]; try simp -implicitDefEqProofs only [Int.cast_ofNat_Int, hn, go_sem, simprocAttr]))
   | with_reducible refine And.intro (by first | omega | (simp only [hgW]; omega)) ?_
   | (exfalso; omega)
  all_goals trace_state
def k6_VsDLaw : List Nat := [0,1,2,3,5,8,9,11,14]
attribute [go_sem] k6_VsDLaw
theorem f6_ok {valid : List UInt8 → Bool} (hv : ValidOk valid) (nb : Bool) (b : List UInt8) (hnb : nb = true → b = []) (hash : List UInt8) (hh : hash.length = 32) (fl : UInt8) (cnt : UInt32) :
    CallsP Tryd.prog 6 [.sl none nb 1 (b.map u8), .agg (hash.map u8), .int .u8 (fl.toNat : Int), .int .u32 (cnt.toNat : Int)] (.bool true) := by
  have c22 := f22_ok hv
  have hc := cnt.toNat_lt
  have hl2 : (hash.map u8).length = 32 := by rw [List.length_map]; exact hh
  by_cases hbl : 9000 < b.length
  · refine CallsP.intro Tryd.func6 rfl (by show 4 ≤ 38; decide) ?_
    rintro X hX
    have hn : X.n = 38 := hX
    unfold Tryd.f6
    dsimp only
    rw [entry4]
    repeat' first
     | with_reducible refine Rl.go (by constructor <;> decide) ?_
     | ((with_reducible first | refine hK _ ?_ | refine hK.1 ?_ | refine hK.2 ?_); clear hK K)
     | ((with_reducible refine condS hK (fun hg => ?_) fun hg => ?_) <;> clear hK K <;> (try simp only [hgW] at hg) <;> try (exfalso; omega))
     | ((first | ((with_reducible first | refine Rk.go k6_VsDLaw (by constructor) ?_); intro K hK) | with_reducible refine Rr.go [] (by constructor) ?_ | (with_reducible refine guardP_split (fun hg => ?_) fun hg => ?_) <;> (try simp only [hg]) <;> (try simp only [hgW] at hg) | refine Rc.go c22 (by constructor) ?_) <;> simp -implicitDefEqProofs only [hl2, hh, Int.cast_ofNat_Int, hn, go_sem, simprocAttr] <;> try (simp (disch := omega) only [wrW]; try simp -implicitDefEqProofs only [hl2, hh, Int.cast_ofNat_Int, hn, go_sem, simprocAttr]))
     | with_reducible refine And.intro (by first | omega | (simp only [hgW]; omega)) ?_
     | (exfalso; omega)
  have c23 := f23_ok hv nb b hnb (by omega)
  have c23' := f23_ok hv false (hash ++ fl :: kb cnt.toNat ++ b) (fun h => by cases h) (by simp [hh, kb]; omega)
  rw [List.map_append, List.map_append, List.map_cons, ← kb_av] at c23'
  have hta : List.take 32 hash = hash := List.take_of_length_le (by omega)
  refine CallsP.intro Tryd.func6 rfl (by show 4 ≤ 38; decide) ?_
  rintro X hX
  have hn : X.n = 38 := hX
  unfold Tryd.f6
  dsimp only
  rw [entry4]
  repeat' first
   | with_reducible refine Rl.go (by constructor <;> decide) ?_
   | ((with_reducible first | refine hK _ ?_ | refine hK.1 ?_ | refine hK.2 ?_); clear hK K)
   | ((with_reducible refine condS hK (fun hg => ?_) fun hg => ?_) <;> clear hK K <;> (try simp only [hgW] at hg) <;> try (exfalso; omega))
   | ((with_reducible first | refine callE_PE (c23') ?_ | refine callP_PE (c23') ?_); simp -implicitDefEqProofs only [eqOk_true, hl2, hh, hta, u8, Int.cast_ofNat_Int, hn, go_sem, simprocAttr]; (skip; try (simp (disch := omega) only [wrW]; try simp -implicitDefEqProofs only [hl2, hh, hta, u8, Int.cast_ofNat_Int, hn, go_sem, simprocAttr])); fail_if_success (with_reducible refine eqOk_mk ?_))
   | ((first | ((with_reducible first | refine Rk.go k6_VsDLaw (by constructor) ?_); intro K hK) | with_reducible refine Rr.go [] (by constructor) ?_ | (with_reducible refine guardP_split (fun hg => ?_) fun hg => ?_) <;> (try simp only [hg]) <;> (try simp only [hgW] at hg) | refine Rc.go c22 (by constructor) ?_ | refine Rc.go c23 (by constructor) ?_) <;> simp -implicitDefEqProofs only [hl2, hh, hta, u8, Int.cast_ofNat_Int, hn, go_sem, simprocAttr] <;> try (simp (disch := omega) only [wrW]; try simp -implicitDefEqProofs only [hl2, hh, hta, u8, Int.cast_ofNat_Int, hn, go_sem, simprocAttr]))
   | with_reducible refine And.intro (by first | omega | (simp only [hgW]; omega)) ?_
   | (exfalso; omega)
  all_goals trace_state
theorem not5 (c : UInt8) : decide (bitop .andNot .u8 (c.toNat : Int) 5 = 0) = !(badF c || bit c 64 || bit c 128) := all_u8 (p := fun c => decide (bitop .andNot .u8 (c.toNat : Int) 5 = 0) = !(badF c || bit c 64 || bit c 128)) (by decide +kernel) c
theorem heldS_nil (valid : List UInt8 → Bool) (f : UInt8) (d : AD) : heldS valid f d [] = if bit f 64 = true then (.zero, 60) else if bit f 128 = true then (.zero, 20) else (d, 0) := by
  have e : decS valid [] = (.zero, none, 20) := rfl
  unfold heldS extS endS
  rw [e]
  simp
def k7_VsDLaw : List Nat := [0,1,2,3,4,8,9,10,11,13,15,52,55]
attribute [go_sem] k7_VsDLaw
theorem f7_ok {valid : List UInt8 → Bool} (hv : ValidOk valid) (hash : List UInt8) (hh : hash.length = 32) (fl : UInt8) (cnt : UInt32) (less : UInt8) :
    CallsP Tryd.prog 7 [.agg (hash.map u8), .int .u8 (fl.toNat : Int), .int .u32 (cnt.toNat : Int), .int .u8 (less.toNat : Int)] (.bool true) := by
  have c22 := f22_ok hv
  have hc := cnt.toNat_lt
  have hl2 : (hash.map u8).length = 32 := by rw [List.length_map]; exact hh
  have hta : List.take 32 hash = hash := List.take_of_length_le (by omega)
  have hk4 : (kb cnt.toNat).length = 4 := rfl
  obtain ⟨D, hD⟩ : ∃ D, authS valid (hash ++ fl :: kb cnt.toNat) = D := ⟨_, rfl⟩
  have c24 := f24_ok hv false (hash ++ fl :: kb cnt.toNat) (fun h => by cases h) (by simp [hh, kb])
  have hm : (less.toNat : Int) % 37 = ((less.toNat % 37 : Nat) : Int) := by omega
  have hmlt : less.toNat % 37 < 37 := Nat.mod_lt _ (by decide)
  obtain ⟨m, hmm⟩ : ∃ m, less.toNat % 37 = m := ⟨_, rfl⟩
  rw [hmm] at hm hmlt
  have hmt : ((36 : Int) - (m : Int)).toNat = 36 - m := by omega
  have c24' := f24_ok hv false ((hash ++ fl :: kb cnt.toNat).take (36 - m)) (fun h => by cases h) (by simp [hh, kb]; omega)
  have e60 : authS valid ((hash ++ fl :: kb cnt.toNat).take (36 - m)) = (.zero, 60) := by
    unfold authS
    rw [if_pos (.inl (by rw [List.length_take]; omega))]
  rw [e60, List.map_take, List.map_append, List.map_cons, ← kb_av] at c24'
  have e1 := authS_cut valid hh fl (UInt8.ofNat (cnt.toNat / 16777216)) (UInt8.ofNat (cnt.toNat / 65536)) (UInt8.ofNat (cnt.toNat / 256)) (UInt8.ofNat cnt.toNat) []
  rw [show fl :: UInt8.ofNat (cnt.toNat / 16777216) :: UInt8.ofNat (cnt.toNat / 65536) :: UInt8.ofNat (cnt.toNat / 256) :: UInt8.ofNat cnt.toNat :: [] = fl :: kb cnt.toNat from rfl] at e1
  rw [e1, List.map_append, List.map_cons, ← kb_av, heldS_nil] at c24
  simp only [AD.av, AD.cells, AD.zero, z32_u8, z16_u8, cs_zero, List.cons_append, List.nil_append, List.map_nil] at c24'
  have n5 := not5 fl
  have hbk : be [UInt8.ofNat (cnt.toNat / 16777216), UInt8.ofNat (cnt.toNat / 65536), UInt8.ofNat (cnt.toNat / 256), UInt8.ofNat cnt.toNat] = cnt.toNat := be_kb cnt.toNat hc
  by_cases hb : badF fl = true
  · rw [if_pos hb] at c24
    simp only [AD.av, AD.cells, AD.zero, z32_u8, z16_u8, cs_zero, List.cons_append, List.nil_append, List.map_nil] at c24
    rw [hb] at n5
    simp only [Bool.true_or, Bool.not_true] at n5
    refine CallsP.intro Tryd.func7 rfl (by show 4 ≤ 108; decide) ?_
    rintro X hX
    have hn : X.n = 108 := hX
    unfold Tryd.f7
    dsimp only
    rw [entry4]
    repeat' first
     | with_reducible refine Rl.go (by constructor <;> decide) ?_
     | ((with_reducible first | refine hK _ ?_ | refine hK.1 ?_ | refine hK.2 ?_); clear hK K)
     | ((with_reducible refine condS hK (fun hg => ?_) fun hg => ?_) <;> clear hK K <;> (try simp only [hgW] at hg) <;> try (exfalso; omega))
     | ((with_reducible first | refine callE_PE c24 ?_ | refine callP_PE c24 ?_); simp -implicitDefEqProofs only [eqOk_true, n5, hl2, hh, hta, hm, hmt, u8, Int.cast_ofNat_Int, hn, go_sem, simprocAttr]; (skip; try (simp (disch := omega) only [wrW]; try simp -implicitDefEqProofs only [n5, hl2, hh, hta, hm, hmt, u8, Int.cast_ofNat_Int, hn, go_sem, simprocAttr])); fail_if_success (with_reducible refine eqOk_mk ?_))
     | ((with_reducible first | refine callE_PE (c24') ?_ | refine callP_PE (c24') ?_); simp -implicitDefEqProofs only [eqOk_true, n5, hl2, hh, hta, hm, hmt, u8, Int.cast_ofNat_Int, hn, go_sem, simprocAttr]; (skip; try (simp (disch := omega) only [wrW]; try simp -implicitDefEqProofs only [n5, hl2, hh, hta, hm, hmt, u8, Int.cast_ofNat_Int, hn, go_sem, simprocAttr])); fail_if_success (with_reducible refine eqOk_mk ?_))
     | ((first | ((with_reducible first | refine Rk.go k7_VsDLaw (by constructor) ?_); intro K hK) | with_reducible refine Rr.go [] (by constructor) ?_ | (with_reducible refine guardP_split (fun hg => ?_) fun hg => ?_) <;> (try simp only [hg]) <;> (try simp only [hgW] at hg) | refine Rc.go c22 (by constructor) ?_) <;> simp -implicitDefEqProofs only [n5, hl2, hh, hta, hm, hmt, u8, Int.cast_ofNat_Int, hn, go_sem, simprocAttr] <;> try (simp (disch := omega) only [wrW]; try simp -implicitDefEqProofs only [n5, hl2, hh, hta, hm, hmt, u8, Int.cast_ofNat_Int, hn, go_sem, simprocAttr]))
     | with_reducible refine And.intro (by first | omega | (simp only [hgW]; omega)) ?_
     | (exfalso; omega)
    all_goals trace_state
  rw [if_neg hb] at c24
  have hb : badF fl = false := by simpa using hb
  rw [hb, Bool.false_or] at n5
  by_cases h64 : bit fl 64 = true
  · rw [if_pos h64] at c24
    simp only [AD.av, AD.cells, AD.zero, z32_u8, z16_u8, cs_zero, List.cons_append, List.nil_append, List.map_nil] at c24
    rw [h64] at n5
    simp only [Bool.true_or, Bool.not_true] at n5
    refine CallsP.intro Tryd.func7 rfl (by show 4 ≤ 108; decide) ?_
    rintro X hX
    have hn : X.n = 108 := hX
    unfold Tryd.f7
    dsimp only
    rw [entry4]
    repeat' first
     | with_reducible refine Rl.go (by constructor <;> decide) ?_
     | ((with_reducible first | refine hK _ ?_ | refine hK.1 ?_ | refine hK.2 ?_); clear hK K)
     | ((with_reducible refine condS hK (fun hg => ?_) fun hg => ?_) <;> clear hK K <;> (try simp only [hgW] at hg) <;> try (exfalso; omega))
     | ((with_reducible first | refine callE_PE c24 ?_ | refine callP_PE c24 ?_); simp -implicitDefEqProofs only [eqOk_true, n5, hl2, hh, hta, hm, hmt, u8, Int.cast_ofNat_Int, hn, go_sem, simprocAttr]; (skip; try (simp (disch := omega) only [wrW]; try simp -implicitDefEqProofs only [n5, hl2, hh, hta, hm, hmt, u8, Int.cast_ofNat_Int, hn, go_sem, simprocAttr])); fail_if_success (with_reducible refine eqOk_mk ?_))
     | ((with_reducible first | refine callE_PE (c24') ?_ | refine callP_PE (c24') ?_); simp -implicitDefEqProofs only [eqOk_true, n5, hl2, hh, hta, hm, hmt, u8, Int.cast_ofNat_Int, hn, go_sem, simprocAttr]; (skip; try (simp (disch := omega) only [wrW]; try simp -implicitDefEqProofs only [n5, hl2, hh, hta, hm, hmt, u8, Int.cast_ofNat_Int, hn, go_sem, simprocAttr])); fail_if_success (with_reducible refine eqOk_mk ?_))
     | ((first | ((with_reducible first | refine Rk.go k7_VsDLaw (by constructor) ?_); intro K hK) | with_reducible refine Rr.go [] (by constructor) ?_ | (with_reducible refine guardP_split (fun hg => ?_) fun hg => ?_) <;> (try simp only [hg]) <;> (try simp only [hgW] at hg) | refine Rc.go c22 (by constructor) ?_) <;> simp -implicitDefEqProofs only [n5, hl2, hh, hta, hm, hmt, u8, Int.cast_ofNat_Int, hn, go_sem, simprocAttr] <;> try (simp (disch := omega) only [wrW]; try simp -implicitDefEqProofs only [n5, hl2, hh, hta, hm, hmt, u8, Int.cast_ofNat_Int, hn, go_sem, simprocAttr]))
     | with_reducible refine And.intro (by first | omega | (simp only [hgW]; omega)) ?_
     | (exfalso; omega)
    all_goals trace_state
  rw [if_neg h64] at c24
  have h64 : bit fl 64 = false := by simpa using h64
  rw [h64, Bool.false_or] at n5
  by_cases h128 : bit fl 128 = true
  · rw [if_pos h128] at c24
    simp only [AD.av, AD.cells, AD.zero, z32_u8, z16_u8, cs_zero, List.cons_append, List.nil_append, List.map_nil] at c24
    rw [h128, Bool.not_true] at n5
    refine CallsP.intro Tryd.func7 rfl (by show 4 ≤ 108; decide) ?_
    rintro X hX
    have hn : X.n = 108 := hX
    unfold Tryd.f7
    dsimp only
    rw [entry4]
    repeat' first
     | with_reducible refine Rl.go (by constructor <;> decide) ?_
     | ((with_reducible first | refine hK _ ?_ | refine hK.1 ?_ | refine hK.2 ?_); clear hK K)
     | ((with_reducible refine condS hK (fun hg => ?_) fun hg => ?_) <;> clear hK K <;> (try simp only [hgW] at hg) <;> try (exfalso; omega))
     | ((with_reducible first | refine callE_PE c24 ?_ | refine callP_PE c24 ?_); simp -implicitDefEqProofs only [eqOk_true, n5, f128, h128, hl2, hh, hta, hm, hmt, u8, Int.cast_ofNat_Int, hn, go_sem, simprocAttr]; (skip; try (simp (disch := omega) only [wrW]; try simp -implicitDefEqProofs only [n5, f128, h128, hl2, hh, hta, hm, hmt, u8, Int.cast_ofNat_Int, hn, go_sem, simprocAttr])); fail_if_success (with_reducible refine eqOk_mk ?_))
     | ((with_reducible first | refine callE_PE (c24') ?_ | refine callP_PE (c24') ?_); simp -implicitDefEqProofs only [eqOk_true, n5, f128, h128, hl2, hh, hta, hm, hmt, u8, Int.cast_ofNat_Int, hn, go_sem, simprocAttr]; (skip; try (simp (disch := omega) only [wrW]; try simp -implicitDefEqProofs only [n5, f128, h128, hl2, hh, hta, hm, hmt, u8, Int.cast_ofNat_Int, hn, go_sem, simprocAttr])); fail_if_success (with_reducible refine eqOk_mk ?_))
     | ((first | ((with_reducible first | refine Rk.go k7_VsDLaw (by constructor) ?_); intro K hK) | with_reducible refine Rr.go [] (by constructor) ?_ | (with_reducible refine guardP_split (fun hg => ?_) fun hg => ?_) <;> (try simp only [hg]) <;> (try simp only [hgW] at hg) | refine Rc.go c22 (by constructor) ?_) <;> simp -implicitDefEqProofs only [n5, f128, h128, hl2, hh, hta, hm, hmt, u8, Int.cast_ofNat_Int, hn, go_sem, simprocAttr] <;> try (simp (disch := omega) only [wrW]; try simp -implicitDefEqProofs only [n5, f128, h128, hl2, hh, hta, hm, hmt, u8, Int.cast_ofNat_Int, hn, go_sem, simprocAttr]))
     | with_reducible refine And.intro (by first | omega | (simp only [hgW]; omega)) ?_
     | (exfalso; omega)
    all_goals trace_state
  rw [if_neg h128] at c24
  have h128 : bit fl 128 = false := by simpa using h128
  rw [h128, Bool.not_false] at n5
  simp only [hbk, h64, AD.av, AD.cells, AD.zero, z16_u8, cs_zero, List.cons_append, List.nil_append, List.map_nil] at c24
  have ht1 := ap_take hl2
  have hd1 := ap_drop hl2
  have hg1 := ap_get hl2
  have ha1 : ∀ l, List.take 32 (hash.map u8 ++ l) = hash.map u8 := fun l => by have := ht1 l 0; simpa using this
  refine CallsP.intro Tryd.func7 rfl (by show 4 ≤ 108; decide) ?_
  rintro X hX
  have hn : X.n = 108 := hX
  unfold Tryd.f7
  dsimp only
  rw [entry4]
  repeat' first
   | with_reducible refine Rl.go (by constructor <;> decide) ?_
   | ((with_reducible first | refine hK _ ?_ | refine hK.1 ?_ | refine hK.2 ?_); clear hK K)
   | ((with_reducible refine condS hK (fun hg => ?_) fun hg => ?_) <;> clear hK K <;> (try simp only [hgW] at hg) <;> try (exfalso; omega))
   | ((with_reducible first | refine callE_PE c24 ?_ | refine callP_PE c24 ?_); simp -implicitDefEqProofs only [eqOk_true, n5, f1, f4, Bool.not_not, ints_u8, ba43, hl2, hh, hta, ha1, ht1, hd1, hg1, hm, hmt, u8, Int.cast_ofNat_Int, hn, go_sem, simprocAttr]; (skip; try (simp (disch := omega) only [wrW]; try simp -implicitDefEqProofs only [n5, f1, f4, Bool.not_not, ints_u8, ba43, hl2, hh, hta, ha1, ht1, hd1, hg1, hm, hmt, u8, Int.cast_ofNat_Int, hn, go_sem, simprocAttr])); fail_if_success (with_reducible refine eqOk_mk ?_))
   | ((with_reducible first | refine callE_PE (c24') ?_ | refine callP_PE (c24') ?_); simp -implicitDefEqProofs only [eqOk_true, n5, f1, f4, Bool.not_not, ints_u8, ba43, hl2, hh, hta, ha1, ht1, hd1, hg1, hm, hmt, u8, Int.cast_ofNat_Int, hn, go_sem, simprocAttr]; (skip; try (simp (disch := omega) only [wrW]; try simp -implicitDefEqProofs only [n5, f1, f4, Bool.not_not, ints_u8, ba43, hl2, hh, hta, ha1, ht1, hd1, hg1, hm, hmt, u8, Int.cast_ofNat_Int, hn, go_sem, simprocAttr])); fail_if_success (with_reducible refine eqOk_mk ?_))
   | ((first | ((with_reducible first | refine Rk.go k7_VsDLaw (by constructor) ?_); intro K hK) | with_reducible refine Rr.go [] (by constructor) ?_ | (with_reducible refine guardP_split (fun hg => ?_) fun hg => ?_) <;> (try simp only [hg]) <;> (try simp only [hgW] at hg) | refine Rc.go c22 (by constructor) ?_) <;> simp -implicitDefEqProofs only [n5, f1, f4, Bool.not_not, ints_u8, ba43, hl2, hh, hta, ha1, ht1, hd1, hg1, hm, hmt, u8, Int.cast_ofNat_Int, hn, go_sem, simprocAttr] <;> try (simp (disch := omega) only [wrW]; try simp -implicitDefEqProofs only [n5, f1, f4, Bool.not_not, ints_u8, ba43, hl2, hh, hta, ha1, ht1, hd1, hg1, hm, hmt, u8, Int.cast_ofNat_Int, hn, go_sem, simprocAttr]))
   | with_reducible refine And.intro (by first | omega | (simp only [hgW]; omega)) ?_
   | (exfalso; omega)
  all_goals trace_state
end Go.Proofs.YtijcpdgfbboamaaDoor
