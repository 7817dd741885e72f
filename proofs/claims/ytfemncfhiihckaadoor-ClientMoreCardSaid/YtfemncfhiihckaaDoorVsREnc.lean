/- Base64, as the document writes it: Encode. -/
import Derived.Test.YtfemncfhiihckaaDoorVsTy
import Derived.Test.YtfemncfhiihckaaDoorVsTree
open Go Go.VS
namespace Go.Proofs.YtfemncfhiihckaaDoor
set_option linter.unusedVariables false
set_option linter.unusedSimpArgs false
set_option maxRecDepth 20000
set_option maxHeartbeats 4000000
abbrev sgB : List UInt8 := [65, 66, 67, 68, 69, 70, 71, 72, 73, 74, 75, 76, 77, 78, 79, 80, 81, 82, 83, 84, 85, 86, 87, 88, 89, 90, 97, 98, 99, 100, 101, 102, 103, 104, 105, 106, 107, 108, 109, 110, 111, 112, 113, 114, 115, 116, 117, 118, 119, 120, 121, 122, 48, 49, 50, 51, 52, 53, 54, 55, 56, 57, 45, 95]
/-- A bit of bytes, the greatest first. -/
def bitB (b : List UInt8) (k : Nat) : Nat := if k < 8 * b.length then (b.getD (k / 8) default).toNat / 2 ^ (7 - k % 8) % 2 else 0
/-- So many bits as a number. -/
def vB (b : List UInt8) (i : Nat) : Nat → Nat
  | 0 => 0
  | j + 1 => 2 * vB b i j + bitB b (i + j)
theorem bitB_lt (b : List UInt8) (k : Nat) : bitB b k < 2 := by
  unfold bitB
  split <;> omega
theorem vB_lt (b : List UInt8) (i : Nat) : ∀ j, vB b i j < 2 ^ j
  | 0 => by simp [vB]
  | j + 1 => by
    have h1 := vB_lt b i j
    have h2 := bitB_lt b (i + j)
    rw [vB, Nat.pow_succ]; omega
def e64 (b : List UInt8) : Nat → List UInt8
  | 0 => []
  | q + 1 => e64 b q ++ [sgB.getD (vB b (6 * q) 6) default]
theorem e64_len (b : List UInt8) : ∀ q, (e64 b q).length = q
  | 0 => rfl
  | q + 1 => by rw [e64, List.length_append, e64_len b q]; rfl
def enc64 (b : List UInt8) : List UInt8 := e64 b ((8 * b.length + 5) / 6)
theorem shr_u8 (c : UInt8) (n : Nat) (h : n ≤ 7) : ((c.toNat : Int).fdiv (2 ^ min n 8)) = ((c.toNat / 2 ^ n : Nat) : Int) := by
  have e2 : (2 : Int) ^ n = ((2 ^ n : Nat) : Int) := by rw [Int.natCast_pow]; rfl
  rw [Nat.min_eq_left (by omega), e2, Int.fdiv_eq_ediv_of_nonneg _ (Int.natCast_nonneg _), ← Int.natCast_ediv]
def k36_VsREnc : List Nat := [0,2,3,4,5,6,7,12,19,41]
attribute [go_sem] k36_VsREnc
theorem f36_ok (b : List UInt8) (nb : Bool) (hl : b.length ≤ 100000) : CallsP Tryd.prog 36 [.sl none nb 1 (b.map u8)] (.str (enc64 b)) := by
  refine CallsP.intro Tryd.func36 rfl (by show 1 ≤ 52; decide) ?_
  rintro X hX
  have hn : X.n = 52 := hX
  unfold Tryd.f36
  dsimp only
  rw [entry1]
  repeat' first
   | with_reducible refine Rl.go (by constructor <;> decide) ?_
   | ((with_reducible first | refine hK _ ?_ | refine hK.1 ?_ | refine hK.2 ?_); clear hK K)
   | ((with_reducible refine condS hK (fun hg => ?_) fun hg => ?_) <;> clear hK K <;> (try simp only [hgW] at hg) <;> try (exfalso; omega))
   | ((first | ((with_reducible first | refine Rk.go k36_VsREnc (by constructor) ?_); intro K hK) | with_reducible refine Rr.go [] (by constructor) ?_ | (with_reducible refine guardP_split (fun hg => ?_) fun hg => ?_) <;> (try simp only [hg]) <;> (try simp only [hgW] at hg)) <;> simp -implicitDefEqProofs only [hn, go_sem, simprocAttr] <;> try (simp (disch := omega) only [wrW]; try simp -implicitDefEqProofs only [hn, go_sem, simprocAttr]))
   | with_reducible refine And.intro (by first | omega | (simp only [hgW]; omega)) ?_
   | (exfalso; omega)
  refine AWP.adopt 4 (0, 999) 0 1 (by rfl) ?_
  refine AWP.loopX [0, 3, 4, 5] [] (fun q : Nat => St.mk (lk [(0, .sl none nb 1 (b.map u8)), (3, .str sgB), (4, .sl (some ((0, 999), 0)) (e64 b q).isEmpty 1 ((e64 b q).map u8)), (5, .int .i64 ((6 * q : Nat) : Int))]) (lkB []) (hasS []) (hasS []) (hasN []) (lkR []))
    (fun q => 6 * q ≤ 8 * b.length + 5) (fun q => 8 * b.length + 6 - 6 * q) 0 ?_ (Nat.zero_le _) ?_
  · simp -implicitDefEqProofs only [e64, hn, go_sem, simprocAttr]
    try rfl
  intro q hq
  try dsimp only
  have e8 : (8 : Int) * (b.length : Int) = ((8 * b.length : Nat) : Int) := by omega
  have hel := e64_len b q
  by_cases hend : 8 * b.length ≤ 6 * q
  · have hqq : (8 * b.length + 5) / 6 = q := by omega
    unfold enc64
    rw [hqq]
    obtain ⟨E, hE⟩ : ∃ E, e64 b q = E := ⟨_, rfl⟩
    rw [hE] at hel ⊢
    repeat' first
     | with_reducible refine Rl.go (by constructor <;> decide) ?_
     | ((with_reducible first | refine hK _ ?_ | refine hK.1 ?_ | refine hK.2 ?_); clear hK K)
     | ((with_reducible refine condS hK (fun hg => ?_) fun hg => ?_) <;> clear hK K <;> (try simp only [hgW] at hg) <;> try (exfalso; omega))
     | ((first | ((with_reducible first | refine Rk.go k36_VsREnc (by constructor) ?_); intro K hK) | with_reducible refine Rr.go [] (by constructor) ?_ | (with_reducible refine guardP_split (fun hg => ?_) fun hg => ?_) <;> (try simp only [hg]) <;> (try simp only [hgW] at hg)) <;> simp -implicitDefEqProofs only [e8, hn, go_sem, simprocAttr] <;> try (simp (disch := omega) only [wrW]; try simp -implicitDefEqProofs only [e8, hn, go_sem, simprocAttr]))
     | with_reducible refine And.intro (by first | omega | (simp only [hgW]; omega)) ?_
     | (exfalso; omega)
  · obtain ⟨E, hE⟩ : ∃ E, e64 b q = E := ⟨_, rfl⟩
    have hE2 : e64 b (q + 1) = E ++ [sgB.getD (vB b (6 * q) 6) default] := by rw [e64, hE]
    rw [hE] at hel ⊢
    obtain ⟨i, hi⟩ : ∃ i, 6 * q = i := ⟨_, rfl⟩
    have hi6 : 6 * (q + 1) = i + 6 := by omega
    rw [hi] at hE2 ⊢
    repeat' first
     | with_reducible refine Rl.go (by constructor <;> decide) ?_
     | ((with_reducible first | refine hK _ ?_ | refine hK.1 ?_ | refine hK.2 ?_); clear hK K)
     | ((with_reducible refine condS hK (fun hg => ?_) fun hg => ?_) <;> clear hK K <;> (try simp only [hgW] at hg) <;> try (exfalso; omega))
     | ((first | ((with_reducible first | refine Rk.go k36_VsREnc (by constructor) ?_); intro K hK) | with_reducible refine Rr.go [] (by constructor) ?_ | (with_reducible refine guardP_split (fun hg => ?_) fun hg => ?_) <;> (try simp only [hg]) <;> (try simp only [hgW] at hg)) <;> simp -implicitDefEqProofs only [e8, hn, go_sem, simprocAttr] <;> try (simp (disch := omega) only [wrW]; try simp -implicitDefEqProofs only [e8, hn, go_sem, simprocAttr]))
     | with_reducible refine And.intro (by first | omega | (simp only [hgW]; omega)) ?_
     | (exfalso; omega)
    refine AWP.loopX [0, 3, 4, 5, 6, 7] [] (fun j : Nat => St.mk (lk [(0, .sl none nb 1 (b.map u8)), (3, .str sgB), (4, .sl (some ((0, 999), 0)) E.isEmpty 1 (E.map u8)), (5, .int .i64 (i : Int)), (6, .int .i64 (vB b i j : Int)), (7, .int .i64 ((i + j : Nat) : Int))]) (lkB []) (hasS []) (hasS []) (hasN []) (lkR []))
      (fun j => j ≤ 6) (fun j => 6 - j) 0 ?_ (Nat.zero_le _) ?_
    · simp -implicitDefEqProofs only [vB, Nat.add_zero, hn, go_sem, simprocAttr]
      try rfl
    intro j hj
    try dsimp only
    have hv := vB_lt b i j
    have hv64 : vB b i j < 64 := Nat.lt_of_lt_of_le hv (Nat.pow_le_pow_right (by decide) hj)
    have hvs : vB b i (j + 1) = 2 * vB b i j + bitB b (i + j) := rfl
    have ei6 : (i : Int) + 6 = ((i + 6 : Nat) : Int) := by omega
    by_cases hj6 : j = 6
    · subst hj6
      obtain ⟨V, hV⟩ : ∃ V, vB b i 6 = V := ⟨_, rfl⟩
      rw [hV] at hE2 hv64 ⊢
      obtain ⟨c, hc⟩ : ∃ c, sgB.getD V default = c := ⟨_, rfl⟩
      have hds : sgB[V]? = some c := by
        rw [← hc, List.getD_eq_getElem?_getD, List.getElem?_eq_getElem (show V < sgB.length by simp; omega)]; rfl
      rw [hc] at hE2
      have hie : (E ++ [c]).isEmpty = false := by simp
      repeat' first
       | with_reducible refine Rl.go (by constructor <;> decide) ?_
       | ((with_reducible first | refine hK _ ?_ | refine hK.1 ?_ | refine hK.2 ?_); clear hK K)
       | ((with_reducible refine condS hK (fun hg => ?_) fun hg => ?_) <;> clear hK K <;> (try simp only [hgW] at hg) <;> try (exfalso; omega))
       | ((first | ((with_reducible first | refine Rk.go k36_VsREnc (by constructor) ?_); intro K hK) | with_reducible refine Rr.go [] (by constructor) ?_ | (with_reducible refine guardP_split (fun hg => ?_) fun hg => ?_) <;> (try simp only [hg]) <;> (try simp only [hgW] at hg)) <;> simp -implicitDefEqProofs only [ei6, hds, u8, hn, go_sem, simprocAttr] <;> try (simp (disch := omega) only [wrW]; try simp -implicitDefEqProofs only [ei6, hds, u8, hn, go_sem, simprocAttr]))
       | with_reducible refine And.intro (by first | omega | (simp only [hgW]; omega)) ?_
       | (exfalso; omega)
      refine ⟨q + 1, ?_, by omega, by omega⟩
      rw [hE2, hi6]
      simp -implicitDefEqProofs only [u8, hie, List.map_append, List.map_cons, List.map_nil, hn, go_sem, simprocAttr]
      try rfl
    · obtain ⟨V, hV⟩ : ∃ V, vB b i j = V := ⟨_, rfl⟩
      rw [hV] at hvs hv64 ⊢
      have e2V : (2 : Int) * (V : Int) = ((2 * V : Nat) : Int) := by omega
      have ej : ((i + j : Nat) : Int) + 1 = ((i + (j + 1) : Nat) : Int) := by omega
      obtain ⟨k, hk⟩ : ∃ k, i + j = k := ⟨_, rfl⟩
      rw [hk] at hvs ej ⊢
      by_cases hkl : k < 8 * b.length
      · have hd8 : (k : Int) / 8 = ((k / 8 : Nat) : Int) := by omega
        have hm8 : (7 : Int) - (k : Int) % 8 = ((7 - k % 8 : Nat) : Int) := by omega
        obtain ⟨c, hc⟩ : ∃ c, b.getD (k / 8) default = c := ⟨_, rfl⟩
        have hsh := shr_u8 c (7 - k % 8) (by omega)
        have hbit : bitB b k = c.toNat / 2 ^ (7 - k % 8) % 2 := by unfold bitB; rw [if_pos hkl, hc]
        obtain ⟨w, hw⟩ : ∃ w, c.toNat / 2 ^ (7 - k % 8) = w := ⟨_, rfl⟩
        rw [hw] at hsh hbit
        have hw2 : ((w : Nat) : Int) % 2 = ((w % 2 : Nat) : Int) := by omega
        by_cases h1 : w % 2 = 1
        · have e3 : ((2 * V : Nat) : Int) + 1 = ((2 * V + 1 : Nat) : Int) := by omega
          repeat' first
           | with_reducible refine Rl.go (by constructor <;> decide) ?_
           | ((with_reducible first | refine hK _ ?_ | refine hK.1 ?_ | refine hK.2 ?_); clear hK K)
           | ((with_reducible refine condS hK (fun hg => ?_) fun hg => ?_) <;> clear hK K <;> (try simp only [hgW] at hg) <;> try (exfalso; omega))
           | ((first | ((with_reducible first | refine Rk.go k36_VsREnc (by constructor) ?_); intro K hK) | with_reducible refine Rr.go [] (by constructor) ?_ | (with_reducible refine guardP_split (fun hg => ?_) fun hg => ?_) <;> (try simp only [hg]) <;> (try simp only [hgW] at hg)) <;> simp -implicitDefEqProofs only [e8, e2V, hd8, hm8, hc, u8, hsh, hw2, e3, hn, go_sem, simprocAttr] <;> try (simp (disch := omega) only [wrW]; try simp -implicitDefEqProofs only [e8, e2V, hd8, hm8, hc, u8, hsh, hw2, e3, hn, go_sem, simprocAttr]))
           | with_reducible refine And.intro (by first | omega | (simp only [hgW]; omega)) ?_
           | (exfalso; omega)
          refine ⟨j + 1, ?_, by omega, by omega⟩
          rw [hvs, hbit, h1]
          simp -implicitDefEqProofs only [ej, hn, go_sem, simprocAttr]
          try rfl
        · skip
          repeat' first
           | with_reducible refine Rl.go (by constructor <;> decide) ?_
           | ((with_reducible first | refine hK _ ?_ | refine hK.1 ?_ | refine hK.2 ?_); clear hK K)
           | ((with_reducible refine condS hK (fun hg => ?_) fun hg => ?_) <;> clear hK K <;> (try simp only [hgW] at hg) <;> try (exfalso; omega))
           | ((first | ((with_reducible first | refine Rk.go k36_VsREnc (by constructor) ?_); intro K hK) | with_reducible refine Rr.go [] (by constructor) ?_ | (with_reducible refine guardP_split (fun hg => ?_) fun hg => ?_) <;> (try simp only [hg]) <;> (try simp only [hgW] at hg)) <;> simp -implicitDefEqProofs only [e8, e2V, hd8, hm8, hc, u8, hsh, hw2, hn, go_sem, simprocAttr] <;> try (simp (disch := omega) only [wrW]; try simp -implicitDefEqProofs only [e8, e2V, hd8, hm8, hc, u8, hsh, hw2, hn, go_sem, simprocAttr]))
           | with_reducible refine And.intro (by first | omega | (simp only [hgW]; omega)) ?_
           | (exfalso; omega)
          refine ⟨j + 1, ?_, by omega, by omega⟩
          rw [hvs, hbit, show w % 2 = 0 by omega]
          simp -implicitDefEqProofs only [ej, Nat.add_zero, hn, go_sem, simprocAttr]
          try rfl
      · have hbit : bitB b k = 0 := by unfold bitB; rw [if_neg hkl]
        repeat' first
         | with_reducible refine Rl.go (by constructor <;> decide) ?_
         | ((with_reducible first | refine hK _ ?_ | refine hK.1 ?_ | refine hK.2 ?_); clear hK K)
         | ((with_reducible refine condS hK (fun hg => ?_) fun hg => ?_) <;> clear hK K <;> (try simp only [hgW] at hg) <;> try (exfalso; omega))
         | ((first | ((with_reducible first | refine Rk.go k36_VsREnc (by constructor) ?_); intro K hK) | with_reducible refine Rr.go [] (by constructor) ?_ | (with_reducible refine guardP_split (fun hg => ?_) fun hg => ?_) <;> (try simp only [hg]) <;> (try simp only [hgW] at hg)) <;> simp -implicitDefEqProofs only [e8, e2V, hn, go_sem, simprocAttr] <;> try (simp (disch := omega) only [wrW]; try simp -implicitDefEqProofs only [e8, e2V, hn, go_sem, simprocAttr]))
         | with_reducible refine And.intro (by first | omega | (simp only [hgW]; omega)) ?_
         | (exfalso; omega)
        refine ⟨j + 1, ?_, by omega, by omega⟩
        rw [hvs, hbit]
        simp -implicitDefEqProofs only [ej, Nat.add_zero, hn, go_sem, simprocAttr]
        try rfl
end Go.Proofs.YtfemncfhiihckaaDoor
