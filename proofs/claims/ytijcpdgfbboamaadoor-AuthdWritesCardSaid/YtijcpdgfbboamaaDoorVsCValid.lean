/- What utf8.Valid answers: are the bytes UTF-8? -/
import Derived.Test.YtijcpdgfbboamaaDoorVsCWord
open Go Go.VS
namespace Go.Proofs.YtijcpdgfbboamaaDoor
set_option linter.unusedVariables false
set_option linter.unusedSimpArgs false
set_option maxRecDepth 20000
set_option maxHeartbeats 40000000
theorem validD_nil : Go.Lib.validD [] = true := rfl
/-- Eight bytes below 128. -/
theorem word_asc (l : List UInt8) (h : 8 ≤ l.length) : Go.Lib.leNat (l.take 8) &&& 9259542123273814144 = 0 ↔ ∀ b ∈ l.take 8, b.toNat < 128 := by
  have h8 : (l.take 8).length = 8 := by rw [List.length_take]; omega
  have := Go.Lib.leNat_mask (l.take 8)
  rw [h8, Go.Lib.maskN8] at this
  exact this
theorem word_lt (l : List UInt8) : Go.Lib.leNat (l.take 8) < 18446744073709551616 := by
  have h := Go.Lib.leNat_lt (l.take 8)
  refine Nat.lt_of_lt_of_le h ?_
  rw [show (18446744073709551616 : Nat) = 256 ^ 8 from rfl]
  exact Nat.pow_le_pow_right (by decide) (by rw [List.length_take]; omega)
theorem asc_add (l : List UInt8) (a b : Nat) (ha : ∀ x ∈ l.take a, x.toNat < 128) (hb : ∀ x ∈ (l.drop a).take b, x.toNat < 128) : ∀ x ∈ l.take (a + b), x.toNat < 128 := by
  rw [List.take_add]
  intro x hx
  rcases List.mem_append.1 hx with h | h
  · exact ha x h
  · exact hb x h
theorem and_nat (a b : Nat) (ha : a < 18446744073709551616) (hb : b < 18446744073709551616) : bitop .and .u64 (a : Int) (b : Int) = ((a &&& b : Nat) : Int) := u64_and_nat a b ha hb
theorem or_nat (a b : Nat) (ha : a < 18446744073709551616) (hb : b < 18446744073709551616) : bitop .or .u64 (a : Int) (b : Int) = ((a ||| b : Nat) : Int) := u64_or_nat a b ha hb
theorem m48 : min 4 IntKind.u8.bits = 4 := rfl
theorem firstT_cs (b : Nat) : Go.Lib.firstT b = 240 ∨ Go.Lib.firstT b = 241 ∨ Go.Lib.firstT b = 2 ∨ Go.Lib.firstT b = 19 ∨ Go.Lib.firstT b = 3 ∨ Go.Lib.firstT b = 35 ∨ Go.Lib.firstT b = 52 ∨ Go.Lib.firstT b = 4 ∨ Go.Lib.firstT b = 68 := by
  unfold Go.Lib.firstT
  repeat' split
  all_goals simp
theorem lenF : firstN.length = 256 := rfl
theorem lenA : acceptN.length = 32 := rfl
set_option maxRecDepth 100000 in
theorem firstN_eq : ∀ X : Fin 256, firstN.getD X.val default = Go.Lib.firstT X.val := by decide
def k44_VsCValid : List Nat := [0,2,3,4,5,6,15,20,31,46,69,82,83,103,106,138,141,185]
def a44_8_VsCValid : List Nat := [0,1,3,7,15,31,15,79,255,511,1023,2047,4095]
def o44_8_VsCValid : List Nat := [0,1,2,3,4,5,6,7,8,9,10,11,12]
def a44_10_VsCValid : List Nat := [0,1,3,7,15,31,15,79,255,511,15,1039,3583,15,8207,32255,65023,131071,262143,524287,1048575]
def o44_10_VsCValid : List Nat := [0,1,2,3,4,5,6,7,8,10,11,12,13,14,15,9,16,17,18,19,20]
def a44_18_VsCValid : List Nat := [0,1,3,7,15,31,63,15,143,511,1023,2047,4095,8191,4095,20479,53247,131071,262143]
def o44_18_VsCValid : List Nat := [0,1,2,3,4,5,6,7,8,9,10,11,12,13,14,15,16,17,18]
def a44_22_VsCValid : List Nat := [0,1,3,7,15,31,63,15,143,511,1023,2047,4095,8191,4095,20479,53247,131071,262143,524287,1048575,2097151,4194303,8388607,16777215,33554431,67108863,134217727,268435455,536870911,1073741823]
def o44_22_VsCValid : List Nat := [0,1,2,3,4,5,6,7,8,9,10,11,12,13,14,15,16,17,18,19,20,21,22,23,24,25,26,27,28,29,30]
def a44_26_VsCValid : List Nat := [0,1,3,7,15,31,63,15,143,511,1023,2047,4095,8191,4095,20479,53247,131071,262143,524287,1048575,2097151,4194303,8388607,16777215,33554431,67108863,134217727,268435455,536870911,1073741823,2147483647,4294967295,8589934591,17179869183,34359738367,68719476735,137438953471,274877906943,549755813887,1099511627775,2199023255551,4398046511103]
def o44_26_VsCValid : List Nat := [0,1,2,3,4,5,6,7,8,9,10,11,12,13,14,15,16,17,18,19,20,21,22,23,24,25,26,27,28,29,30,31,32,33,34,35,36,37,38,39,40,41,42]
attribute [go_sem] k44_VsCValid a44_8_VsCValid o44_8_VsCValid a44_10_VsCValid o44_10_VsCValid a44_18_VsCValid o44_18_VsCValid a44_22_VsCValid o44_22_VsCValid a44_26_VsCValid o44_26_VsCValid
theorem f44_ok (l : List UInt8) (hl : l.length ≤ 100000) : CallsP Tryd.prog 44 [.sl none false 1 (l.map u8)] (.bool (Go.Lib.validD l)) := by
  obtain ⟨ANS, hA⟩ : ∃ ANS, Go.Lib.validD l = ANS := ⟨_, rfl⟩
  rw [hA]
  refine CallsP.intro Tryd.func44 rfl (by show 1 ≤ 188; decide) ?_
  rintro X hX
  have hn : X.n = 188 := hX
  unfold Tryd.f44
  dsimp only
  rw [entry1]
  repeat' first
   | with_reducible refine Rl.go (by constructor <;> decide) ?_
   | ((with_reducible first | refine hK _ ?_ | refine hK.1 ?_ | refine hK.2 ?_); clear hK K)
   | ((with_reducible refine condS hK (fun hg => ?_) fun hg => ?_) <;> clear hK K <;> (try simp only [hgW] at hg) <;> try (exfalso; omega))
   | ((first | ((with_reducible first | refine Rk.go k44_VsCValid (by constructor) ?_ | refine Rd.go 8 k44_VsCValid a44_8_VsCValid o44_8_VsCValid mixed (by constructor) (by kernel_rfl) (by kernel_rfl) ?_ | refine Rd.go 10 k44_VsCValid a44_10_VsCValid o44_10_VsCValid mixed (by constructor) (by kernel_rfl) (by kernel_rfl) ?_ | refine Rd.go 18 k44_VsCValid a44_18_VsCValid o44_18_VsCValid mixed (by constructor) (by kernel_rfl) (by kernel_rfl) ?_ | refine Rd.go 22 k44_VsCValid a44_22_VsCValid o44_22_VsCValid mixed (by constructor) (by kernel_rfl) (by kernel_rfl) ?_ | refine Rd.go 26 k44_VsCValid a44_26_VsCValid o44_26_VsCValid mixed (by constructor) (by kernel_rfl) (by kernel_rfl) ?_); intro K hK) | with_reducible refine Rr.go [] (by constructor) ?_ | (with_reducible refine guardP_split (fun hg => ?_) fun hg => ?_) <;> (try simp only [hg]) <;> (try simp only [hgW] at hg)) <;> simp -implicitDefEqProofs only [Int.cast_ofNat_Int, hn, go_sem, simprocAttr] <;> try simp (disch := omega) only [wrW])
   | with_reducible refine And.intro (by first | omega | (simp only [hgW]; omega)) ?_
   | (exfalso; omega)
  refine AWP.loopX [0] [6] (fun u : List UInt8 => St.mk (lk [(0, .sl none false 1 (u.map u8))]) (lkB []) (hasS []) (hasS []) (hasN []) (lkR []))
    (fun u => Go.Lib.validD u = ANS ∧ u.length ≤ l.length) (fun u => u.length) l ?_ ⟨hA, Nat.le_refl _⟩ ?_
  · simp -implicitDefEqProofs only [Int.cast_ofNat_Int, hn, go_sem, simprocAttr]
    try rfl
  rintro u ⟨hv, hul⟩
  by_cases h0 : u.length = 0
  · have : u = [] := List.length_eq_zero_iff.1 h0
    subst this
    rw [validD_nil] at hv
    subst hv
    repeat' first
     | with_reducible refine Rl.go (by constructor <;> decide) ?_
     | ((with_reducible first | refine hK _ ?_ | refine hK.1 ?_ | refine hK.2 ?_); clear hK K)
     | ((with_reducible refine condS hK (fun hg => ?_) fun hg => ?_) <;> clear hK K <;> (try simp only [hgW] at hg) <;> try (exfalso; omega))
     | ((first | ((with_reducible first | refine Rk.go k44_VsCValid (by constructor) ?_ | refine Rd.go 8 k44_VsCValid a44_8_VsCValid o44_8_VsCValid mixed (by constructor) (by kernel_rfl) (by kernel_rfl) ?_ | refine Rd.go 10 k44_VsCValid a44_10_VsCValid o44_10_VsCValid mixed (by constructor) (by kernel_rfl) (by kernel_rfl) ?_ | refine Rd.go 18 k44_VsCValid a44_18_VsCValid o44_18_VsCValid mixed (by constructor) (by kernel_rfl) (by kernel_rfl) ?_ | refine Rd.go 22 k44_VsCValid a44_22_VsCValid o44_22_VsCValid mixed (by constructor) (by kernel_rfl) (by kernel_rfl) ?_ | refine Rd.go 26 k44_VsCValid a44_26_VsCValid o44_26_VsCValid mixed (by constructor) (by kernel_rfl) (by kernel_rfl) ?_); intro K hK) | with_reducible refine Rr.go [] (by constructor) ?_ | (with_reducible refine guardP_split (fun hg => ?_) fun hg => ?_) <;> (try simp only [hg]) <;> (try simp only [hgW] at hg)) <;> simp -implicitDefEqProofs only [Int.cast_ofNat_Int, hn, go_sem, simprocAttr] <;> try simp (disch := omega) only [wrW])
     | with_reducible refine And.intro (by first | omega | (simp only [hgW]; omega)) ?_
     | (exfalso; omega)
  have hc := (u.getD 0 default).toNat_lt
  by_cases hasc : (u.getD 0 default).toNat < 128
  · obtain ⟨u1, hu1⟩ : ∃ u1, u.drop 1 = u1 := ⟨_, rfl⟩
    have v1 : Go.Lib.validD u1 = ANS := by
      rw [← hv, ← hu1]
      refine (Go.Lib.validD_ascii 1 u ?_).symm
      match u, h0 with
      | a :: r, _ => simpa using hasc
    have z1 : u1.length = u.length - 1 := by rw [← hu1, List.length_drop]
    have t1 : u1.take (u.length - 1) = u1 := List.take_of_length_le (by omega)
    by_cases c8 : 8 < u1.length
    · have c56 := f56_ok u1 (by omega)
      have lA := word_lt u1
      have kA := word_asc u1 (by omega)
      obtain ⟨A1, hA1⟩ : ∃ A1, Go.Lib.leNat (u1.take 8) = A1 := ⟨_, rfl⟩
      rw [hA1] at c56 lA kA
      have hand := and_nat A1 9259542123273814144 lA (by omega)
      obtain ⟨Z1, hZ1⟩ : ∃ Z1, A1 &&& 9259542123273814144 = Z1 := ⟨_, rfl⟩
      rw [hZ1] at hand kA
      simp only [Int.cast_ofNat_Int] at hand
      by_cases hz1 : Z1 = 0
      · subst hz1
        obtain ⟨u2, hu2⟩ : ∃ u2, u1.drop 8 = u2 := ⟨_, rfl⟩
        have v2 : Go.Lib.validD u2 = ANS := by
          rw [← v1, ← hu2]
          exact (Go.Lib.validD_ascii 8 u1 (kA.1 rfl)).symm
        have z2 : u2.length = u1.length - 8 := by rw [← hu2, List.length_drop]
        have t2 : u2.take (u1.length - 8) = u2 := List.take_of_length_le (by omega)
        by_cases c16 : 16 < u2.length
        · obtain ⟨w2, hw2⟩ : ∃ w2, u2.drop 8 = w2 := ⟨_, rfl⟩
          have zw2 : w2.length = u2.length - 8 := by rw [← hw2, List.length_drop]
          have tw2 : w2.take (u2.length - 8) = w2 := List.take_of_length_le (by omega)
          have c56a := f56_ok u2 (by omega)
          have c56b := f56_ok w2 (by omega)
          have lB := word_lt u2
          have lC := word_lt w2
          have kB := word_asc u2 (by omega)
          have kC := word_asc w2 (by omega)
          obtain ⟨B1, hB1⟩ : ∃ B1, Go.Lib.leNat (u2.take 8) = B1 := ⟨_, rfl⟩
          obtain ⟨C1, hC1⟩ : ∃ C1, Go.Lib.leNat (w2.take 8) = C1 := ⟨_, rfl⟩
          rw [hB1] at c56a lB kB
          rw [hC1] at c56b lC kC
          have hor := or_nat B1 C1 lB lC
          have lor : B1 ||| C1 < 18446744073709551616 := Nat.or_lt_two_pow (n := 64) lB lC
          have hand2 := and_nat (B1 ||| C1) 9259542123273814144 lor (by omega)
          have k2 : (B1 ||| C1) &&& 9259542123273814144 = 0 → ∀ x ∈ u2.take 16, x.toNat < 128 := fun hh => by
            obtain ⟨e1, e2⟩ := (Go.Lib.or_mask B1 C1 _).1 hh
            exact asc_add u2 8 8 (kB.1 e1) (by rw [hw2]; exact kC.1 e2)
          obtain ⟨O2, hO2⟩ : ∃ O2, B1 ||| C1 = O2 := ⟨_, rfl⟩
          rw [hO2] at hor hand2 k2
          obtain ⟨Z2, hZ2⟩ : ∃ Z2, O2 &&& 9259542123273814144 = Z2 := ⟨_, rfl⟩
          rw [hZ2] at hand2 k2
          simp only [Int.cast_ofNat_Int] at hand2
          by_cases hz2 : Z2 = 0
          · subst hz2
            obtain ⟨u3, hu3⟩ : ∃ u3, u2.drop 16 = u3 := ⟨_, rfl⟩
            have v3 : Go.Lib.validD u3 = ANS := by
              rw [← v2, ← hu3]
              exact (Go.Lib.validD_ascii 16 u2 (k2 rfl)).symm
            have z3 : u3.length = u2.length - 16 := by rw [← hu3, List.length_drop]
            have t3 : u3.take (u2.length - 16) = u3 := List.take_of_length_le (by omega)
            repeat' first
             | with_reducible refine Rl.go (by constructor <;> decide) ?_
             | ((with_reducible first | refine hK _ ?_ | refine hK.1 ?_ | refine hK.2 ?_); clear hK K)
             | ((with_reducible refine condS hK (fun hg => ?_) fun hg => ?_) <;> clear hK K <;> (try simp only [hgW] at hg) <;> try (exfalso; omega))
             | ((first | ((with_reducible first | refine Rk.go k44_VsCValid (by constructor) ?_ | refine Rd.go 8 k44_VsCValid a44_8_VsCValid o44_8_VsCValid mixed (by constructor) (by kernel_rfl) (by kernel_rfl) ?_ | refine Rd.go 10 k44_VsCValid a44_10_VsCValid o44_10_VsCValid mixed (by constructor) (by kernel_rfl) (by kernel_rfl) ?_ | refine Rd.go 18 k44_VsCValid a44_18_VsCValid o44_18_VsCValid mixed (by constructor) (by kernel_rfl) (by kernel_rfl) ?_ | refine Rd.go 22 k44_VsCValid a44_22_VsCValid o44_22_VsCValid mixed (by constructor) (by kernel_rfl) (by kernel_rfl) ?_ | refine Rd.go 26 k44_VsCValid a44_26_VsCValid o44_26_VsCValid mixed (by constructor) (by kernel_rfl) (by kernel_rfl) ?_); intro K hK) | with_reducible refine Rr.go [] (by constructor) ?_ | (with_reducible refine guardP_split (fun hg => ?_) fun hg => ?_) <;> (try simp only [hg]) <;> (try simp only [hgW] at hg) | refine Rc.go c56 (by constructor) ?_ | refine Rc.go c56a (by constructor) ?_ | refine Rc.go c56b (by constructor) ?_) <;> simp -implicitDefEqProofs only [u8, hu1, hu2, hw2, hu3, t1, t2, tw2, t3, hand, hor, hand2, Int.cast_ofNat_Int, hn, go_sem, simprocAttr] <;> try simp (disch := omega) only [wrW])
             | with_reducible refine And.intro (by first | omega | (simp only [hgW]; omega)) ?_
             | (exfalso; omega)
            refine AWP.loopX [0] [] (fun w : List UInt8 => St.mk (lk [(0, .sl none false 1 (w.map u8))]) (lkB []) (hasS []) (hasS []) (hasN []) (lkR []))
              (fun w => Go.Lib.validD w = ANS ∧ w.length ≤ u3.length) (fun w => w.length) u3 ?_ ⟨v3, Nat.le_refl _⟩ ?_
            · simp -implicitDefEqProofs only [Int.cast_ofNat_Int, hn, go_sem, simprocAttr]
              try rfl
            rintro w ⟨vw, hwl⟩
            by_cases c32 : 32 < w.length
            · obtain ⟨wb, hwb⟩ : ∃ wb, w.drop 8 = wb := ⟨_, rfl⟩
              obtain ⟨wc, hwc⟩ : ∃ wc, w.drop 16 = wc := ⟨_, rfl⟩
              obtain ⟨wd, hwd⟩ : ∃ wd, w.drop 24 = wd := ⟨_, rfl⟩
              have zb : wb.length = w.length - 8 := by rw [← hwb, List.length_drop]
              have tb : wb.take (w.length - 8) = wb := List.take_of_length_le (by omega)
              have zc : wc.length = w.length - 16 := by rw [← hwc, List.length_drop]
              have tc : wc.take (w.length - 16) = wc := List.take_of_length_le (by omega)
              have zd : wd.length = w.length - 24 := by rw [← hwd, List.length_drop]
              have td : wd.take (w.length - 24) = wd := List.take_of_length_le (by omega)
              have d0 := f56_ok w (by omega)
              have d1 := f56_ok wb (by omega)
              have d2 := f56_ok wc (by omega)
              have d3 := f56_ok wd (by omega)
              have l0 := word_lt w
              have l1 := word_lt wb
              have l2 := word_lt wc
              have l3 := word_lt wd
              have k0 := word_asc w (by omega)
              have k1 := word_asc wb (by omega)
              have k2' := word_asc wc (by omega)
              have k3 := word_asc wd (by omega)
              obtain ⟨D0, hD0⟩ : ∃ D0, Go.Lib.leNat (w.take 8) = D0 := ⟨_, rfl⟩
              obtain ⟨D1, hD1⟩ : ∃ D1, Go.Lib.leNat (wb.take 8) = D1 := ⟨_, rfl⟩
              obtain ⟨D2, hD2⟩ : ∃ D2, Go.Lib.leNat (wc.take 8) = D2 := ⟨_, rfl⟩
              obtain ⟨D3, hD3⟩ : ∃ D3, Go.Lib.leNat (wd.take 8) = D3 := ⟨_, rfl⟩
              rw [hD0] at d0 l0 k0
              rw [hD1] at d1 l1 k1
              rw [hD2] at d2 l2 k2'
              rw [hD3] at d3 l3 k3
              have o1 := or_nat D0 D1 l0 l1
              have o2 := or_nat D2 D3 l2 l3
              have lo1 : D0 ||| D1 < 18446744073709551616 := Nat.or_lt_two_pow (n := 64) l0 l1
              have lo2 : D2 ||| D3 < 18446744073709551616 := Nat.or_lt_two_pow (n := 64) l2 l3
              have o3 := or_nat (D0 ||| D1) (D2 ||| D3) lo1 lo2
              have lo3 : (D0 ||| D1) ||| (D2 ||| D3) < 18446744073709551616 := Nat.or_lt_two_pow (n := 64) lo1 lo2
              have hand3 := and_nat ((D0 ||| D1) ||| (D2 ||| D3)) 9259542123273814144 lo3 (by omega)
              have kk : ((D0 ||| D1) ||| (D2 ||| D3)) &&& 9259542123273814144 = 0 → ∀ x ∈ w.take 32, x.toNat < 128 := fun hh => by
                obtain ⟨e01, e23⟩ := (Go.Lib.or_mask _ _ _).1 hh
                obtain ⟨e0, e1⟩ := (Go.Lib.or_mask _ _ _).1 e01
                obtain ⟨e2, e3⟩ := (Go.Lib.or_mask _ _ _).1 e23
                have s16 := asc_add w 8 8 (k0.1 e0) (by rw [hwb]; exact k1.1 e1)
                have s24 := asc_add w 16 8 s16 (by rw [hwc]; exact k2'.1 e2)
                exact asc_add w 24 8 s24 (by rw [hwd]; exact k3.1 e3)
              obtain ⟨O3, hO3⟩ : ∃ O3, (D0 ||| D1) ||| (D2 ||| D3) = O3 := ⟨_, rfl⟩
              rw [hO3] at o3 hand3 kk
              obtain ⟨Z3, hZ3⟩ : ∃ Z3, O3 &&& 9259542123273814144 = Z3 := ⟨_, rfl⟩
              rw [hZ3] at hand3 kk
              simp only [Int.cast_ofNat_Int] at hand3
              by_cases hz3 : Z3 = 0
              · subst hz3
                have v4 : Go.Lib.validD (w.drop 32) = ANS := by
                  rw [← vw]
                  exact (Go.Lib.validD_ascii 32 w (kk rfl)).symm
                repeat' first
                 | with_reducible refine Rl.go (by constructor <;> decide) ?_
                 | ((with_reducible first | refine hK _ ?_ | refine hK.1 ?_ | refine hK.2 ?_); clear hK K)
                 | ((with_reducible refine condS hK (fun hg => ?_) fun hg => ?_) <;> clear hK K <;> (try simp only [hgW] at hg) <;> try (exfalso; omega))
                 | ((first | ((with_reducible first | refine Rk.go k44_VsCValid (by constructor) ?_ | refine Rd.go 8 k44_VsCValid a44_8_VsCValid o44_8_VsCValid mixed (by constructor) (by kernel_rfl) (by kernel_rfl) ?_ | refine Rd.go 10 k44_VsCValid a44_10_VsCValid o44_10_VsCValid mixed (by constructor) (by kernel_rfl) (by kernel_rfl) ?_ | refine Rd.go 18 k44_VsCValid a44_18_VsCValid o44_18_VsCValid mixed (by constructor) (by kernel_rfl) (by kernel_rfl) ?_ | refine Rd.go 22 k44_VsCValid a44_22_VsCValid o44_22_VsCValid mixed (by constructor) (by kernel_rfl) (by kernel_rfl) ?_ | refine Rd.go 26 k44_VsCValid a44_26_VsCValid o44_26_VsCValid mixed (by constructor) (by kernel_rfl) (by kernel_rfl) ?_); intro K hK) | with_reducible refine Rr.go [] (by constructor) ?_ | (with_reducible refine guardP_split (fun hg => ?_) fun hg => ?_) <;> (try simp only [hg]) <;> (try simp only [hgW] at hg) | refine Rc.go d0 (by constructor) ?_ | refine Rc.go d1 (by constructor) ?_ | refine Rc.go d2 (by constructor) ?_ | refine Rc.go d3 (by constructor) ?_) <;> simp -implicitDefEqProofs only [u8, hwb, hwc, hwd, tb, tc, td, o1, o2, o3, hand3, Int.cast_ofNat_Int, hn, go_sem, simprocAttr] <;> try simp (disch := omega) only [wrW])
                 | with_reducible refine And.intro (by first | omega | (simp only [hgW]; omega)) ?_
                 | (exfalso; omega)
                refine ⟨w.drop 32, ?_, ⟨v4, by rw [List.length_drop]; omega⟩, by rw [List.length_drop]; omega⟩
                simp -implicitDefEqProofs only [Int.cast_ofNat_Int, hn, go_sem, simprocAttr]
                try rfl
              · skip
                repeat' first
                 | with_reducible refine Rl.go (by constructor <;> decide) ?_
                 | ((with_reducible first | refine hK _ ?_ | refine hK.1 ?_ | refine hK.2 ?_); clear hK K)
                 | ((with_reducible refine condS hK (fun hg => ?_) fun hg => ?_) <;> clear hK K <;> (try simp only [hgW] at hg) <;> try (exfalso; omega))
                 | ((first | ((with_reducible first | refine Rk.go k44_VsCValid (by constructor) ?_ | refine Rd.go 8 k44_VsCValid a44_8_VsCValid o44_8_VsCValid mixed (by constructor) (by kernel_rfl) (by kernel_rfl) ?_ | refine Rd.go 10 k44_VsCValid a44_10_VsCValid o44_10_VsCValid mixed (by constructor) (by kernel_rfl) (by kernel_rfl) ?_ | refine Rd.go 18 k44_VsCValid a44_18_VsCValid o44_18_VsCValid mixed (by constructor) (by kernel_rfl) (by kernel_rfl) ?_ | refine Rd.go 22 k44_VsCValid a44_22_VsCValid o44_22_VsCValid mixed (by constructor) (by kernel_rfl) (by kernel_rfl) ?_ | refine Rd.go 26 k44_VsCValid a44_26_VsCValid o44_26_VsCValid mixed (by constructor) (by kernel_rfl) (by kernel_rfl) ?_); intro K hK) | with_reducible refine Rr.go [] (by constructor) ?_ | (with_reducible refine guardP_split (fun hg => ?_) fun hg => ?_) <;> (try simp only [hg]) <;> (try simp only [hgW] at hg) | refine Rc.go d0 (by constructor) ?_ | refine Rc.go d1 (by constructor) ?_ | refine Rc.go d2 (by constructor) ?_ | refine Rc.go d3 (by constructor) ?_) <;> simp -implicitDefEqProofs only [u8, hwb, hwc, hwd, tb, tc, td, o1, o2, o3, hand3, Int.cast_ofNat_Int, hn, go_sem, simprocAttr] <;> try simp (disch := omega) only [wrW])
                 | with_reducible refine And.intro (by first | omega | (simp only [hgW]; omega)) ?_
                 | (exfalso; omega)
                refine ⟨w, ?_, ⟨vw, by omega⟩, by omega⟩
                simp -implicitDefEqProofs only [Int.cast_ofNat_Int, hn, go_sem, simprocAttr]
                try rfl
            · skip
              repeat' first
               | with_reducible refine Rl.go (by constructor <;> decide) ?_
               | ((with_reducible first | refine hK _ ?_ | refine hK.1 ?_ | refine hK.2 ?_); clear hK K)
               | ((with_reducible refine condS hK (fun hg => ?_) fun hg => ?_) <;> clear hK K <;> (try simp only [hgW] at hg) <;> try (exfalso; omega))
               | ((first | ((with_reducible first | refine Rk.go k44_VsCValid (by constructor) ?_ | refine Rd.go 8 k44_VsCValid a44_8_VsCValid o44_8_VsCValid mixed (by constructor) (by kernel_rfl) (by kernel_rfl) ?_ | refine Rd.go 10 k44_VsCValid a44_10_VsCValid o44_10_VsCValid mixed (by constructor) (by kernel_rfl) (by kernel_rfl) ?_ | refine Rd.go 18 k44_VsCValid a44_18_VsCValid o44_18_VsCValid mixed (by constructor) (by kernel_rfl) (by kernel_rfl) ?_ | refine Rd.go 22 k44_VsCValid a44_22_VsCValid o44_22_VsCValid mixed (by constructor) (by kernel_rfl) (by kernel_rfl) ?_ | refine Rd.go 26 k44_VsCValid a44_26_VsCValid o44_26_VsCValid mixed (by constructor) (by kernel_rfl) (by kernel_rfl) ?_); intro K hK) | with_reducible refine Rr.go [] (by constructor) ?_ | (with_reducible refine guardP_split (fun hg => ?_) fun hg => ?_) <;> (try simp only [hg]) <;> (try simp only [hgW] at hg)) <;> simp -implicitDefEqProofs only [u8, Int.cast_ofNat_Int, hn, go_sem, simprocAttr] <;> try simp (disch := omega) only [wrW])
               | with_reducible refine And.intro (by first | omega | (simp only [hgW]; omega)) ?_
               | (exfalso; omega)
              refine ⟨w, ?_, ⟨vw, by omega⟩, by omega⟩
              simp -implicitDefEqProofs only [Int.cast_ofNat_Int, hn, go_sem, simprocAttr]
              try rfl
          · skip
            repeat' first
             | with_reducible refine Rl.go (by constructor <;> decide) ?_
             | ((with_reducible first | refine hK _ ?_ | refine hK.1 ?_ | refine hK.2 ?_); clear hK K)
             | ((with_reducible refine condS hK (fun hg => ?_) fun hg => ?_) <;> clear hK K <;> (try simp only [hgW] at hg) <;> try (exfalso; omega))
             | ((first | ((with_reducible first | refine Rk.go k44_VsCValid (by constructor) ?_ | refine Rd.go 8 k44_VsCValid a44_8_VsCValid o44_8_VsCValid mixed (by constructor) (by kernel_rfl) (by kernel_rfl) ?_ | refine Rd.go 10 k44_VsCValid a44_10_VsCValid o44_10_VsCValid mixed (by constructor) (by kernel_rfl) (by kernel_rfl) ?_ | refine Rd.go 18 k44_VsCValid a44_18_VsCValid o44_18_VsCValid mixed (by constructor) (by kernel_rfl) (by kernel_rfl) ?_ | refine Rd.go 22 k44_VsCValid a44_22_VsCValid o44_22_VsCValid mixed (by constructor) (by kernel_rfl) (by kernel_rfl) ?_ | refine Rd.go 26 k44_VsCValid a44_26_VsCValid o44_26_VsCValid mixed (by constructor) (by kernel_rfl) (by kernel_rfl) ?_); intro K hK) | with_reducible refine Rr.go [] (by constructor) ?_ | (with_reducible refine guardP_split (fun hg => ?_) fun hg => ?_) <;> (try simp only [hg]) <;> (try simp only [hgW] at hg) | refine Rc.go c56 (by constructor) ?_ | refine Rc.go c56a (by constructor) ?_ | refine Rc.go c56b (by constructor) ?_) <;> simp -implicitDefEqProofs only [u8, hu1, hu2, hw2, t1, t2, tw2, hand, hor, hand2, Int.cast_ofNat_Int, hn, go_sem, simprocAttr] <;> try simp (disch := omega) only [wrW])
             | with_reducible refine And.intro (by first | omega | (simp only [hgW]; omega)) ?_
             | (exfalso; omega)
            refine ⟨u2, ?_, ⟨v2, by omega⟩, by omega⟩
            simp -implicitDefEqProofs only [Int.cast_ofNat_Int, hn, go_sem, simprocAttr]
            try rfl
        · skip
          repeat' first
           | with_reducible refine Rl.go (by constructor <;> decide) ?_
           | ((with_reducible first | refine hK _ ?_ | refine hK.1 ?_ | refine hK.2 ?_); clear hK K)
           | ((with_reducible refine condS hK (fun hg => ?_) fun hg => ?_) <;> clear hK K <;> (try simp only [hgW] at hg) <;> try (exfalso; omega))
           | ((first | ((with_reducible first | refine Rk.go k44_VsCValid (by constructor) ?_ | refine Rd.go 8 k44_VsCValid a44_8_VsCValid o44_8_VsCValid mixed (by constructor) (by kernel_rfl) (by kernel_rfl) ?_ | refine Rd.go 10 k44_VsCValid a44_10_VsCValid o44_10_VsCValid mixed (by constructor) (by kernel_rfl) (by kernel_rfl) ?_ | refine Rd.go 18 k44_VsCValid a44_18_VsCValid o44_18_VsCValid mixed (by constructor) (by kernel_rfl) (by kernel_rfl) ?_ | refine Rd.go 22 k44_VsCValid a44_22_VsCValid o44_22_VsCValid mixed (by constructor) (by kernel_rfl) (by kernel_rfl) ?_ | refine Rd.go 26 k44_VsCValid a44_26_VsCValid o44_26_VsCValid mixed (by constructor) (by kernel_rfl) (by kernel_rfl) ?_); intro K hK) | with_reducible refine Rr.go [] (by constructor) ?_ | (with_reducible refine guardP_split (fun hg => ?_) fun hg => ?_) <;> (try simp only [hg]) <;> (try simp only [hgW] at hg) | refine Rc.go c56 (by constructor) ?_) <;> simp -implicitDefEqProofs only [u8, hu1, hu2, t1, t2, hand, Int.cast_ofNat_Int, hn, go_sem, simprocAttr] <;> try simp (disch := omega) only [wrW])
           | with_reducible refine And.intro (by first | omega | (simp only [hgW]; omega)) ?_
           | (exfalso; omega)
          refine ⟨u2, ?_, ⟨v2, by omega⟩, by omega⟩
          simp -implicitDefEqProofs only [Int.cast_ofNat_Int, hn, go_sem, simprocAttr]
          try rfl
      · skip
        repeat' first
         | with_reducible refine Rl.go (by constructor <;> decide) ?_
         | ((with_reducible first | refine hK _ ?_ | refine hK.1 ?_ | refine hK.2 ?_); clear hK K)
         | ((with_reducible refine condS hK (fun hg => ?_) fun hg => ?_) <;> clear hK K <;> (try simp only [hgW] at hg) <;> try (exfalso; omega))
         | ((first | ((with_reducible first | refine Rk.go k44_VsCValid (by constructor) ?_ | refine Rd.go 8 k44_VsCValid a44_8_VsCValid o44_8_VsCValid mixed (by constructor) (by kernel_rfl) (by kernel_rfl) ?_ | refine Rd.go 10 k44_VsCValid a44_10_VsCValid o44_10_VsCValid mixed (by constructor) (by kernel_rfl) (by kernel_rfl) ?_ | refine Rd.go 18 k44_VsCValid a44_18_VsCValid o44_18_VsCValid mixed (by constructor) (by kernel_rfl) (by kernel_rfl) ?_ | refine Rd.go 22 k44_VsCValid a44_22_VsCValid o44_22_VsCValid mixed (by constructor) (by kernel_rfl) (by kernel_rfl) ?_ | refine Rd.go 26 k44_VsCValid a44_26_VsCValid o44_26_VsCValid mixed (by constructor) (by kernel_rfl) (by kernel_rfl) ?_); intro K hK) | with_reducible refine Rr.go [] (by constructor) ?_ | (with_reducible refine guardP_split (fun hg => ?_) fun hg => ?_) <;> (try simp only [hg]) <;> (try simp only [hgW] at hg) | refine Rc.go c56 (by constructor) ?_) <;> simp -implicitDefEqProofs only [u8, hu1, t1, hand, Int.cast_ofNat_Int, hn, go_sem, simprocAttr] <;> try simp (disch := omega) only [wrW])
         | with_reducible refine And.intro (by first | omega | (simp only [hgW]; omega)) ?_
         | (exfalso; omega)
        refine ⟨u1, ?_, ⟨v1, by omega⟩, by omega⟩
        simp -implicitDefEqProofs only [Int.cast_ofNat_Int, hn, go_sem, simprocAttr]
        try rfl
    · skip
      repeat' first
       | with_reducible refine Rl.go (by constructor <;> decide) ?_
       | ((with_reducible first | refine hK _ ?_ | refine hK.1 ?_ | refine hK.2 ?_); clear hK K)
       | ((with_reducible refine condS hK (fun hg => ?_) fun hg => ?_) <;> clear hK K <;> (try simp only [hgW] at hg) <;> try (exfalso; omega))
       | ((first | ((with_reducible first | refine Rk.go k44_VsCValid (by constructor) ?_ | refine Rd.go 8 k44_VsCValid a44_8_VsCValid o44_8_VsCValid mixed (by constructor) (by kernel_rfl) (by kernel_rfl) ?_ | refine Rd.go 10 k44_VsCValid a44_10_VsCValid o44_10_VsCValid mixed (by constructor) (by kernel_rfl) (by kernel_rfl) ?_ | refine Rd.go 18 k44_VsCValid a44_18_VsCValid o44_18_VsCValid mixed (by constructor) (by kernel_rfl) (by kernel_rfl) ?_ | refine Rd.go 22 k44_VsCValid a44_22_VsCValid o44_22_VsCValid mixed (by constructor) (by kernel_rfl) (by kernel_rfl) ?_ | refine Rd.go 26 k44_VsCValid a44_26_VsCValid o44_26_VsCValid mixed (by constructor) (by kernel_rfl) (by kernel_rfl) ?_); intro K hK) | with_reducible refine Rr.go [] (by constructor) ?_ | (with_reducible refine guardP_split (fun hg => ?_) fun hg => ?_) <;> (try simp only [hg]) <;> (try simp only [hgW] at hg)) <;> simp -implicitDefEqProofs only [u8, hu1, t1, Int.cast_ofNat_Int, hn, go_sem, simprocAttr] <;> try simp (disch := omega) only [wrW])
       | with_reducible refine And.intro (by first | omega | (simp only [hgW]; omega)) ?_
       | (exfalso; omega)
      refine ⟨u1, ?_, ⟨v1, by omega⟩, by omega⟩
      simp -implicitDefEqProofs only [Int.cast_ofNat_Int, hn, go_sem, simprocAttr]
      try rfl
  · skip
    have hne : u ≠ [] := fun e => h0 (by rw [e]; rfl)
    have hlead := Go.Lib.validD_lead u hne (show 128 ≤ (u.getD 0 default).toNat by omega)
    have hF0 := firstN_eq ⟨(u.getD 0 default).toNat, hc⟩
    simp only at hF0
    have hX0 : Go.Lib.firstT (u.getD 0 0).toNat = Go.Lib.firstT (u.getD 0 default).toNat := rfl
    rw [hX0] at hlead
    have hcs := firstT_cs (u.getD 0 default).toNat
    have h240 : Go.Lib.firstT (u.getD 0 default).toNat ≠ 240 := by
      unfold Go.Lib.firstT
      rw [if_neg hasc]
      (repeat' split) <;> decide
    have l1 := (u.getD 1 default).toNat_lt
    have l2 := (u.getD 2 default).toNat_lt
    have l3 := (u.getD 3 default).toNat_lt
    obtain ⟨X0, hX1⟩ : ∃ X0, Go.Lib.firstT (u.getD 0 default).toNat = X0 := ⟨_, rfl⟩
    rw [hX1] at hlead hF0 hcs h240
    have hall : X0 = 241 ∨ X0 = 2 ∨ X0 = 19 ∨ X0 = 3 ∨ X0 = 35 ∨ X0 = 52 ∨ X0 = 4 ∨ X0 = 68 := by omega
    clear hcs h240 hX1 hX0
    rw [hv] at hlead
    rcases hall with rfl | rfl | rfl | rfl | rfl | rfl | rfl | rfl
    · have hA : ANS = false := hlead
      subst hA
      have ha7 : bitop .and .u8 241 7 = 1 := by decide
      have ha4 : Int.fdiv 241 16 = 15 := by decide
      have hacc : List.take 2 (List.drop 30 acceptN) = [0, 0] := rfl
      repeat' first
       | with_reducible refine Rl.go (by constructor <;> decide) ?_
       | ((with_reducible first | refine hK _ ?_ | refine hK.1 ?_ | refine hK.2 ?_); clear hK K)
       | ((with_reducible refine condS hK (fun hg => ?_) fun hg => ?_) <;> clear hK K <;> (try simp only [hgW] at hg) <;> try (exfalso; omega))
       | ((first | ((with_reducible first | refine Rk.go k44_VsCValid (by constructor) ?_ | refine Rd.go 8 k44_VsCValid a44_8_VsCValid o44_8_VsCValid mixed (by constructor) (by kernel_rfl) (by kernel_rfl) ?_ | refine Rd.go 10 k44_VsCValid a44_10_VsCValid o44_10_VsCValid mixed (by constructor) (by kernel_rfl) (by kernel_rfl) ?_ | refine Rd.go 18 k44_VsCValid a44_18_VsCValid o44_18_VsCValid mixed (by constructor) (by kernel_rfl) (by kernel_rfl) ?_ | refine Rd.go 22 k44_VsCValid a44_22_VsCValid o44_22_VsCValid mixed (by constructor) (by kernel_rfl) (by kernel_rfl) ?_ | refine Rd.go 26 k44_VsCValid a44_26_VsCValid o44_26_VsCValid mixed (by constructor) (by kernel_rfl) (by kernel_rfl) ?_); intro K hK) | with_reducible refine Rr.go [] (by constructor) ?_ | (with_reducible refine guardP_split (fun hg => ?_) fun hg => ?_) <;> (try simp only [hg]) <;> (try simp only [hgW] at hg)) <;> simp -implicitDefEqProofs only [u8, tab0, tab1, lenF, lenA, hF0, n8, hacc, ha7, ha4, m48, Int.cast_ofNat_Int, hn, go_sem, simprocAttr] <;> try simp (disch := omega) only [wrW])
       | with_reducible refine And.intro (by first | omega | (simp only [hgW]; omega)) ?_
       | (exfalso; omega)
    · have hN : u.length < 2 ∨ (u.getD 1 default).toNat < 128 ∨ 191 < (u.getD 1 default).toNat → ANS = false := fun h => by
        have e : Go.Lib.checkN u.length (u.getD 1 0).toNat (u.getD 2 0).toNat (u.getD 3 0).toNat (2 % 8) (Go.Lib.accLo (2 / 16)) (Go.Lib.accHi (2 / 16)) = none := if_pos h
        rw [e] at hlead; exact hlead
      have hS : ¬ (u.length < 2 ∨ (u.getD 1 default).toNat < 128 ∨ 191 < (u.getD 1 default).toNat) → Go.Lib.validD (u.drop 2) = ANS := fun h => by
        have e : Go.Lib.checkN u.length (u.getD 1 0).toNat (u.getD 2 0).toNat (u.getD 3 0).toNat (2 % 8) (Go.Lib.accLo (2 / 16)) (Go.Lib.accHi (2 / 16)) = some 2 := if_neg h
        rw [e] at hlead; exact hlead.symm
      clear hlead
      have ha7 : bitop .and .u8 2 7 = 2 := by decide
      have ha4 : Int.fdiv 2 16 = 0 := by decide
      have hacc : List.take 2 acceptN = [128, 191] := rfl
      repeat' first
       | with_reducible refine Rl.go (by constructor <;> decide) ?_
       | ((with_reducible first | refine hK _ ?_ | refine hK.1 ?_ | refine hK.2 ?_); clear hK K)
       | ((with_reducible refine condS hK (fun hg => ?_) fun hg => ?_) <;> clear hK K <;> (try simp only [hgW] at hg) <;> try (exfalso; omega))
       | ((first | ((with_reducible first | refine Rk.go k44_VsCValid (by constructor) ?_ | refine Rd.go 8 k44_VsCValid a44_8_VsCValid o44_8_VsCValid mixed (by constructor) (by kernel_rfl) (by kernel_rfl) ?_ | refine Rd.go 10 k44_VsCValid a44_10_VsCValid o44_10_VsCValid mixed (by constructor) (by kernel_rfl) (by kernel_rfl) ?_ | refine Rd.go 18 k44_VsCValid a44_18_VsCValid o44_18_VsCValid mixed (by constructor) (by kernel_rfl) (by kernel_rfl) ?_ | refine Rd.go 22 k44_VsCValid a44_22_VsCValid o44_22_VsCValid mixed (by constructor) (by kernel_rfl) (by kernel_rfl) ?_ | refine Rd.go 26 k44_VsCValid a44_26_VsCValid o44_26_VsCValid mixed (by constructor) (by kernel_rfl) (by kernel_rfl) ?_); intro K hK) | with_reducible refine Rr.go [] (by constructor) ?_ | (with_reducible refine guardP_split (fun hg => ?_) fun hg => ?_) <;> (try simp only [hg]) <;> (try simp only [hgW] at hg)) <;> simp -implicitDefEqProofs only [u8, tab0, tab1, lenF, lenA, hF0, n8, hacc, ha7, ha4, m48, Int.cast_ofNat_Int, hn, go_sem, simprocAttr] <;> try simp (disch := omega) only [wrW])
       | with_reducible refine And.intro (by first | omega | (simp only [hgW]; omega)) ?_
       | (exfalso; omega)
      all_goals first
        | (rw [hN (by omega)]; done)
        | (rw [hN (by omega)])
        | (refine ⟨u.drop 2, ?_, ⟨hS (by omega), by rw [List.length_drop]; omega⟩, by rw [List.length_drop]; omega⟩
           simp -implicitDefEqProofs only [Int.cast_ofNat_Int, hn, go_sem, simprocAttr]
           try rfl)
        | trace_state
    · have hN : u.length < 3 ∨ (u.getD 1 default).toNat < 160 ∨ 191 < (u.getD 1 default).toNat ∨ (u.getD 2 default).toNat < 128 ∨ 191 < (u.getD 2 default).toNat → ANS = false := fun h => by
        have e : Go.Lib.checkN u.length (u.getD 1 0).toNat (u.getD 2 0).toNat (u.getD 3 0).toNat (19 % 8) (Go.Lib.accLo (19 / 16)) (Go.Lib.accHi (19 / 16)) = none := if_pos h
        rw [e] at hlead; exact hlead
      have hS : ¬ (u.length < 3 ∨ (u.getD 1 default).toNat < 160 ∨ 191 < (u.getD 1 default).toNat ∨ (u.getD 2 default).toNat < 128 ∨ 191 < (u.getD 2 default).toNat) → Go.Lib.validD (u.drop 3) = ANS := fun h => by
        have e : Go.Lib.checkN u.length (u.getD 1 0).toNat (u.getD 2 0).toNat (u.getD 3 0).toNat (19 % 8) (Go.Lib.accLo (19 / 16)) (Go.Lib.accHi (19 / 16)) = some 3 := if_neg h
        rw [e] at hlead; exact hlead.symm
      clear hlead
      have ha7 : bitop .and .u8 19 7 = 3 := by decide
      have ha4 : Int.fdiv 19 16 = 1 := by decide
      have hacc : List.take 2 (List.drop 2 acceptN) = [160, 191] := rfl
      repeat' first
       | with_reducible refine Rl.go (by constructor <;> decide) ?_
       | ((with_reducible first | refine hK _ ?_ | refine hK.1 ?_ | refine hK.2 ?_); clear hK K)
       | ((with_reducible refine condS hK (fun hg => ?_) fun hg => ?_) <;> clear hK K <;> (try simp only [hgW] at hg) <;> try (exfalso; omega))
       | ((first | ((with_reducible first | refine Rk.go k44_VsCValid (by constructor) ?_ | refine Rd.go 8 k44_VsCValid a44_8_VsCValid o44_8_VsCValid mixed (by constructor) (by kernel_rfl) (by kernel_rfl) ?_ | refine Rd.go 10 k44_VsCValid a44_10_VsCValid o44_10_VsCValid mixed (by constructor) (by kernel_rfl) (by kernel_rfl) ?_ | refine Rd.go 18 k44_VsCValid a44_18_VsCValid o44_18_VsCValid mixed (by constructor) (by kernel_rfl) (by kernel_rfl) ?_ | refine Rd.go 22 k44_VsCValid a44_22_VsCValid o44_22_VsCValid mixed (by constructor) (by kernel_rfl) (by kernel_rfl) ?_ | refine Rd.go 26 k44_VsCValid a44_26_VsCValid o44_26_VsCValid mixed (by constructor) (by kernel_rfl) (by kernel_rfl) ?_); intro K hK) | with_reducible refine Rr.go [] (by constructor) ?_ | (with_reducible refine guardP_split (fun hg => ?_) fun hg => ?_) <;> (try simp only [hg]) <;> (try simp only [hgW] at hg)) <;> simp -implicitDefEqProofs only [u8, tab0, tab1, lenF, lenA, hF0, n8, hacc, ha7, ha4, m48, Int.cast_ofNat_Int, hn, go_sem, simprocAttr] <;> try simp (disch := omega) only [wrW])
       | with_reducible refine And.intro (by first | omega | (simp only [hgW]; omega)) ?_
       | (exfalso; omega)
      all_goals first
        | (rw [hN (by omega)]; done)
        | (rw [hN (by omega)])
        | (refine ⟨u.drop 3, ?_, ⟨hS (by omega), by rw [List.length_drop]; omega⟩, by rw [List.length_drop]; omega⟩
           simp -implicitDefEqProofs only [Int.cast_ofNat_Int, hn, go_sem, simprocAttr]
           try rfl)
        | trace_state
    · have hN : u.length < 3 ∨ (u.getD 1 default).toNat < 128 ∨ 191 < (u.getD 1 default).toNat ∨ (u.getD 2 default).toNat < 128 ∨ 191 < (u.getD 2 default).toNat → ANS = false := fun h => by
        have e : Go.Lib.checkN u.length (u.getD 1 0).toNat (u.getD 2 0).toNat (u.getD 3 0).toNat (3 % 8) (Go.Lib.accLo (3 / 16)) (Go.Lib.accHi (3 / 16)) = none := if_pos h
        rw [e] at hlead; exact hlead
      have hS : ¬ (u.length < 3 ∨ (u.getD 1 default).toNat < 128 ∨ 191 < (u.getD 1 default).toNat ∨ (u.getD 2 default).toNat < 128 ∨ 191 < (u.getD 2 default).toNat) → Go.Lib.validD (u.drop 3) = ANS := fun h => by
        have e : Go.Lib.checkN u.length (u.getD 1 0).toNat (u.getD 2 0).toNat (u.getD 3 0).toNat (3 % 8) (Go.Lib.accLo (3 / 16)) (Go.Lib.accHi (3 / 16)) = some 3 := if_neg h
        rw [e] at hlead; exact hlead.symm
      clear hlead
      have ha7 : bitop .and .u8 3 7 = 3 := by decide
      have ha4 : Int.fdiv 3 16 = 0 := by decide
      have hacc : List.take 2 acceptN = [128, 191] := rfl
      repeat' first
       | with_reducible refine Rl.go (by constructor <;> decide) ?_
       | ((with_reducible first | refine hK _ ?_ | refine hK.1 ?_ | refine hK.2 ?_); clear hK K)
       | ((with_reducible refine condS hK (fun hg => ?_) fun hg => ?_) <;> clear hK K <;> (try simp only [hgW] at hg) <;> try (exfalso; omega))
       | ((first | ((with_reducible first | refine Rk.go k44_VsCValid (by constructor) ?_ | refine Rd.go 8 k44_VsCValid a44_8_VsCValid o44_8_VsCValid mixed (by constructor) (by kernel_rfl) (by kernel_rfl) ?_ | refine Rd.go 10 k44_VsCValid a44_10_VsCValid o44_10_VsCValid mixed (by constructor) (by kernel_rfl) (by kernel_rfl) ?_ | refine Rd.go 18 k44_VsCValid a44_18_VsCValid o44_18_VsCValid mixed (by constructor) (by kernel_rfl) (by kernel_rfl) ?_ | refine Rd.go 22 k44_VsCValid a44_22_VsCValid o44_22_VsCValid mixed (by constructor) (by kernel_rfl) (by kernel_rfl) ?_ | refine Rd.go 26 k44_VsCValid a44_26_VsCValid o44_26_VsCValid mixed (by constructor) (by kernel_rfl) (by kernel_rfl) ?_); intro K hK) | with_reducible refine Rr.go [] (by constructor) ?_ | (with_reducible refine guardP_split (fun hg => ?_) fun hg => ?_) <;> (try simp only [hg]) <;> (try simp only [hgW] at hg)) <;> simp -implicitDefEqProofs only [u8, tab0, tab1, lenF, lenA, hF0, n8, hacc, ha7, ha4, m48, Int.cast_ofNat_Int, hn, go_sem, simprocAttr] <;> try simp (disch := omega) only [wrW])
       | with_reducible refine And.intro (by first | omega | (simp only [hgW]; omega)) ?_
       | (exfalso; omega)
      all_goals first
        | (rw [hN (by omega)]; done)
        | (rw [hN (by omega)])
        | (refine ⟨u.drop 3, ?_, ⟨hS (by omega), by rw [List.length_drop]; omega⟩, by rw [List.length_drop]; omega⟩
           simp -implicitDefEqProofs only [Int.cast_ofNat_Int, hn, go_sem, simprocAttr]
           try rfl)
        | trace_state
    · have hN : u.length < 3 ∨ (u.getD 1 default).toNat < 128 ∨ 159 < (u.getD 1 default).toNat ∨ (u.getD 2 default).toNat < 128 ∨ 191 < (u.getD 2 default).toNat → ANS = false := fun h => by
        have e : Go.Lib.checkN u.length (u.getD 1 0).toNat (u.getD 2 0).toNat (u.getD 3 0).toNat (35 % 8) (Go.Lib.accLo (35 / 16)) (Go.Lib.accHi (35 / 16)) = none := if_pos h
        rw [e] at hlead; exact hlead
      have hS : ¬ (u.length < 3 ∨ (u.getD 1 default).toNat < 128 ∨ 159 < (u.getD 1 default).toNat ∨ (u.getD 2 default).toNat < 128 ∨ 191 < (u.getD 2 default).toNat) → Go.Lib.validD (u.drop 3) = ANS := fun h => by
        have e : Go.Lib.checkN u.length (u.getD 1 0).toNat (u.getD 2 0).toNat (u.getD 3 0).toNat (35 % 8) (Go.Lib.accLo (35 / 16)) (Go.Lib.accHi (35 / 16)) = some 3 := if_neg h
        rw [e] at hlead; exact hlead.symm
      clear hlead
      have ha7 : bitop .and .u8 35 7 = 3 := by decide
      have ha4 : Int.fdiv 35 16 = 2 := by decide
      have hacc : List.take 2 (List.drop 4 acceptN) = [128, 159] := rfl
      repeat' first
       | with_reducible refine Rl.go (by constructor <;> decide) ?_
       | ((with_reducible first | refine hK _ ?_ | refine hK.1 ?_ | refine hK.2 ?_); clear hK K)
       | ((with_reducible refine condS hK (fun hg => ?_) fun hg => ?_) <;> clear hK K <;> (try simp only [hgW] at hg) <;> try (exfalso; omega))
       | ((first | ((with_reducible first | refine Rk.go k44_VsCValid (by constructor) ?_ | refine Rd.go 8 k44_VsCValid a44_8_VsCValid o44_8_VsCValid mixed (by constructor) (by kernel_rfl) (by kernel_rfl) ?_ | refine Rd.go 10 k44_VsCValid a44_10_VsCValid o44_10_VsCValid mixed (by constructor) (by kernel_rfl) (by kernel_rfl) ?_ | refine Rd.go 18 k44_VsCValid a44_18_VsCValid o44_18_VsCValid mixed (by constructor) (by kernel_rfl) (by kernel_rfl) ?_ | refine Rd.go 22 k44_VsCValid a44_22_VsCValid o44_22_VsCValid mixed (by constructor) (by kernel_rfl) (by kernel_rfl) ?_ | refine Rd.go 26 k44_VsCValid a44_26_VsCValid o44_26_VsCValid mixed (by constructor) (by kernel_rfl) (by kernel_rfl) ?_); intro K hK) | with_reducible refine Rr.go [] (by constructor) ?_ | (with_reducible refine guardP_split (fun hg => ?_) fun hg => ?_) <;> (try simp only [hg]) <;> (try simp only [hgW] at hg)) <;> simp -implicitDefEqProofs only [u8, tab0, tab1, lenF, lenA, hF0, n8, hacc, ha7, ha4, m48, Int.cast_ofNat_Int, hn, go_sem, simprocAttr] <;> try simp (disch := omega) only [wrW])
       | with_reducible refine And.intro (by first | omega | (simp only [hgW]; omega)) ?_
       | (exfalso; omega)
      all_goals first
        | (rw [hN (by omega)]; done)
        | (rw [hN (by omega)])
        | (refine ⟨u.drop 3, ?_, ⟨hS (by omega), by rw [List.length_drop]; omega⟩, by rw [List.length_drop]; omega⟩
           simp -implicitDefEqProofs only [Int.cast_ofNat_Int, hn, go_sem, simprocAttr]
           try rfl)
        | trace_state
    · have hN : u.length < 4 ∨ (u.getD 1 default).toNat < 144 ∨ 191 < (u.getD 1 default).toNat ∨ (u.getD 2 default).toNat < 128 ∨ 191 < (u.getD 2 default).toNat ∨ (u.getD 3 default).toNat < 128 ∨ 191 < (u.getD 3 default).toNat → ANS = false := fun h => by
        have e : Go.Lib.checkN u.length (u.getD 1 0).toNat (u.getD 2 0).toNat (u.getD 3 0).toNat (52 % 8) (Go.Lib.accLo (52 / 16)) (Go.Lib.accHi (52 / 16)) = none := if_pos h
        rw [e] at hlead; exact hlead
      have hS : ¬ (u.length < 4 ∨ (u.getD 1 default).toNat < 144 ∨ 191 < (u.getD 1 default).toNat ∨ (u.getD 2 default).toNat < 128 ∨ 191 < (u.getD 2 default).toNat ∨ (u.getD 3 default).toNat < 128 ∨ 191 < (u.getD 3 default).toNat) → Go.Lib.validD (u.drop 4) = ANS := fun h => by
        have e : Go.Lib.checkN u.length (u.getD 1 0).toNat (u.getD 2 0).toNat (u.getD 3 0).toNat (52 % 8) (Go.Lib.accLo (52 / 16)) (Go.Lib.accHi (52 / 16)) = some 4 := if_neg h
        rw [e] at hlead; exact hlead.symm
      clear hlead
      have ha7 : bitop .and .u8 52 7 = 4 := by decide
      have ha4 : Int.fdiv 52 16 = 3 := by decide
      have hacc : List.take 2 (List.drop 6 acceptN) = [144, 191] := rfl
      repeat' first
       | with_reducible refine Rl.go (by constructor <;> decide) ?_
       | ((with_reducible first | refine hK _ ?_ | refine hK.1 ?_ | refine hK.2 ?_); clear hK K)
       | ((with_reducible refine condS hK (fun hg => ?_) fun hg => ?_) <;> clear hK K <;> (try simp only [hgW] at hg) <;> try (exfalso; omega))
       | ((first | ((with_reducible first | refine Rk.go k44_VsCValid (by constructor) ?_ | refine Rd.go 8 k44_VsCValid a44_8_VsCValid o44_8_VsCValid mixed (by constructor) (by kernel_rfl) (by kernel_rfl) ?_ | refine Rd.go 10 k44_VsCValid a44_10_VsCValid o44_10_VsCValid mixed (by constructor) (by kernel_rfl) (by kernel_rfl) ?_ | refine Rd.go 18 k44_VsCValid a44_18_VsCValid o44_18_VsCValid mixed (by constructor) (by kernel_rfl) (by kernel_rfl) ?_ | refine Rd.go 22 k44_VsCValid a44_22_VsCValid o44_22_VsCValid mixed (by constructor) (by kernel_rfl) (by kernel_rfl) ?_ | refine Rd.go 26 k44_VsCValid a44_26_VsCValid o44_26_VsCValid mixed (by constructor) (by kernel_rfl) (by kernel_rfl) ?_); intro K hK) | with_reducible refine Rr.go [] (by constructor) ?_ | (with_reducible refine guardP_split (fun hg => ?_) fun hg => ?_) <;> (try simp only [hg]) <;> (try simp only [hgW] at hg)) <;> simp -implicitDefEqProofs only [u8, tab0, tab1, lenF, lenA, hF0, n8, hacc, ha7, ha4, m48, Int.cast_ofNat_Int, hn, go_sem, simprocAttr] <;> try simp (disch := omega) only [wrW])
       | with_reducible refine And.intro (by first | omega | (simp only [hgW]; omega)) ?_
       | (exfalso; omega)
      all_goals first
        | (rw [hN (by omega)]; done)
        | (rw [hN (by omega)])
        | (refine ⟨u.drop 4, ?_, ⟨hS (by omega), by rw [List.length_drop]; omega⟩, by rw [List.length_drop]; omega⟩
           simp -implicitDefEqProofs only [Int.cast_ofNat_Int, hn, go_sem, simprocAttr]
           try rfl)
        | trace_state
    · have hN : u.length < 4 ∨ (u.getD 1 default).toNat < 128 ∨ 191 < (u.getD 1 default).toNat ∨ (u.getD 2 default).toNat < 128 ∨ 191 < (u.getD 2 default).toNat ∨ (u.getD 3 default).toNat < 128 ∨ 191 < (u.getD 3 default).toNat → ANS = false := fun h => by
        have e : Go.Lib.checkN u.length (u.getD 1 0).toNat (u.getD 2 0).toNat (u.getD 3 0).toNat (4 % 8) (Go.Lib.accLo (4 / 16)) (Go.Lib.accHi (4 / 16)) = none := if_pos h
        rw [e] at hlead; exact hlead
      have hS : ¬ (u.length < 4 ∨ (u.getD 1 default).toNat < 128 ∨ 191 < (u.getD 1 default).toNat ∨ (u.getD 2 default).toNat < 128 ∨ 191 < (u.getD 2 default).toNat ∨ (u.getD 3 default).toNat < 128 ∨ 191 < (u.getD 3 default).toNat) → Go.Lib.validD (u.drop 4) = ANS := fun h => by
        have e : Go.Lib.checkN u.length (u.getD 1 0).toNat (u.getD 2 0).toNat (u.getD 3 0).toNat (4 % 8) (Go.Lib.accLo (4 / 16)) (Go.Lib.accHi (4 / 16)) = some 4 := if_neg h
        rw [e] at hlead; exact hlead.symm
      clear hlead
      have ha7 : bitop .and .u8 4 7 = 4 := by decide
      have ha4 : Int.fdiv 4 16 = 0 := by decide
      have hacc : List.take 2 acceptN = [128, 191] := rfl
      repeat' first
       | with_reducible refine Rl.go (by constructor <;> decide) ?_
       | ((with_reducible first | refine hK _ ?_ | refine hK.1 ?_ | refine hK.2 ?_); clear hK K)
       | ((with_reducible refine condS hK (fun hg => ?_) fun hg => ?_) <;> clear hK K <;> (try simp only [hgW] at hg) <;> try (exfalso; omega))
       | ((first | ((with_reducible first | refine Rk.go k44_VsCValid (by constructor) ?_ | refine Rd.go 8 k44_VsCValid a44_8_VsCValid o44_8_VsCValid mixed (by constructor) (by kernel_rfl) (by kernel_rfl) ?_ | refine Rd.go 10 k44_VsCValid a44_10_VsCValid o44_10_VsCValid mixed (by constructor) (by kernel_rfl) (by kernel_rfl) ?_ | refine Rd.go 18 k44_VsCValid a44_18_VsCValid o44_18_VsCValid mixed (by constructor) (by kernel_rfl) (by kernel_rfl) ?_ | refine Rd.go 22 k44_VsCValid a44_22_VsCValid o44_22_VsCValid mixed (by constructor) (by kernel_rfl) (by kernel_rfl) ?_ | refine Rd.go 26 k44_VsCValid a44_26_VsCValid o44_26_VsCValid mixed (by constructor) (by kernel_rfl) (by kernel_rfl) ?_); intro K hK) | with_reducible refine Rr.go [] (by constructor) ?_ | (with_reducible refine guardP_split (fun hg => ?_) fun hg => ?_) <;> (try simp only [hg]) <;> (try simp only [hgW] at hg)) <;> simp -implicitDefEqProofs only [u8, tab0, tab1, lenF, lenA, hF0, n8, hacc, ha7, ha4, m48, Int.cast_ofNat_Int, hn, go_sem, simprocAttr] <;> try simp (disch := omega) only [wrW])
       | with_reducible refine And.intro (by first | omega | (simp only [hgW]; omega)) ?_
       | (exfalso; omega)
      all_goals first
        | (rw [hN (by omega)]; done)
        | (rw [hN (by omega)])
        | (refine ⟨u.drop 4, ?_, ⟨hS (by omega), by rw [List.length_drop]; omega⟩, by rw [List.length_drop]; omega⟩
           simp -implicitDefEqProofs only [Int.cast_ofNat_Int, hn, go_sem, simprocAttr]
           try rfl)
        | trace_state
    · have hN : u.length < 4 ∨ (u.getD 1 default).toNat < 128 ∨ 143 < (u.getD 1 default).toNat ∨ (u.getD 2 default).toNat < 128 ∨ 191 < (u.getD 2 default).toNat ∨ (u.getD 3 default).toNat < 128 ∨ 191 < (u.getD 3 default).toNat → ANS = false := fun h => by
        have e : Go.Lib.checkN u.length (u.getD 1 0).toNat (u.getD 2 0).toNat (u.getD 3 0).toNat (68 % 8) (Go.Lib.accLo (68 / 16)) (Go.Lib.accHi (68 / 16)) = none := if_pos h
        rw [e] at hlead; exact hlead
      have hS : ¬ (u.length < 4 ∨ (u.getD 1 default).toNat < 128 ∨ 143 < (u.getD 1 default).toNat ∨ (u.getD 2 default).toNat < 128 ∨ 191 < (u.getD 2 default).toNat ∨ (u.getD 3 default).toNat < 128 ∨ 191 < (u.getD 3 default).toNat) → Go.Lib.validD (u.drop 4) = ANS := fun h => by
        have e : Go.Lib.checkN u.length (u.getD 1 0).toNat (u.getD 2 0).toNat (u.getD 3 0).toNat (68 % 8) (Go.Lib.accLo (68 / 16)) (Go.Lib.accHi (68 / 16)) = some 4 := if_neg h
        rw [e] at hlead; exact hlead.symm
      clear hlead
      have ha7 : bitop .and .u8 68 7 = 4 := by decide
      have ha4 : Int.fdiv 68 16 = 4 := by decide
      have hacc : List.take 2 (List.drop 8 acceptN) = [128, 143] := rfl
      repeat' first
       | with_reducible refine Rl.go (by constructor <;> decide) ?_
       | ((with_reducible first | refine hK _ ?_ | refine hK.1 ?_ | refine hK.2 ?_); clear hK K)
       | ((with_reducible refine condS hK (fun hg => ?_) fun hg => ?_) <;> clear hK K <;> (try simp only [hgW] at hg) <;> try (exfalso; omega))
       | ((first | ((with_reducible first | refine Rk.go k44_VsCValid (by constructor) ?_ | refine Rd.go 8 k44_VsCValid a44_8_VsCValid o44_8_VsCValid mixed (by constructor) (by kernel_rfl) (by kernel_rfl) ?_ | refine Rd.go 10 k44_VsCValid a44_10_VsCValid o44_10_VsCValid mixed (by constructor) (by kernel_rfl) (by kernel_rfl) ?_ | refine Rd.go 18 k44_VsCValid a44_18_VsCValid o44_18_VsCValid mixed (by constructor) (by kernel_rfl) (by kernel_rfl) ?_ | refine Rd.go 22 k44_VsCValid a44_22_VsCValid o44_22_VsCValid mixed (by constructor) (by kernel_rfl) (by kernel_rfl) ?_ | refine Rd.go 26 k44_VsCValid a44_26_VsCValid o44_26_VsCValid mixed (by constructor) (by kernel_rfl) (by kernel_rfl) ?_); intro K hK) | with_reducible refine Rr.go [] (by constructor) ?_ | (with_reducible refine guardP_split (fun hg => ?_) fun hg => ?_) <;> (try simp only [hg]) <;> (try simp only [hgW] at hg)) <;> simp -implicitDefEqProofs only [u8, tab0, tab1, lenF, lenA, hF0, n8, hacc, ha7, ha4, m48, Int.cast_ofNat_Int, hn, go_sem, simprocAttr] <;> try simp (disch := omega) only [wrW])
       | with_reducible refine And.intro (by first | omega | (simp only [hgW]; omega)) ?_
       | (exfalso; omega)
      all_goals first
        | (rw [hN (by omega)]; done)
        | (rw [hN (by omega)])
        | (refine ⟨u.drop 4, ?_, ⟨hS (by omega), by rw [List.length_drop]; omega⟩, by rw [List.length_drop]; omega⟩
           simp -implicitDefEqProofs only [Int.cast_ofNat_Int, hn, go_sem, simprocAttr]
           try rfl)
        | trace_state
end Go.Proofs.YtijcpdgfbboamaaDoor
