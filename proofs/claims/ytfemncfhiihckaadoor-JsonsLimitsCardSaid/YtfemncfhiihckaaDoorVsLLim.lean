/- The law JsonsLimits: texts at a reader's bounds. -/
import Derived.Test.YtfemncfhiihckaaDoorVsLAwake
import Derived.Test.YtfemncfhiihckaaDoorVsLTold
open Go Go.VS
namespace Go.Proofs.YtfemncfhiihckaaDoor
set_option linter.unusedVariables false
set_option linter.unusedSimpArgs false
set_option maxRecDepth 20000
set_option maxHeartbeats 4000000
def zeros : Nat → List UInt8
  | 0 => [91, 48]
  | i + 1 => zeros i ++ [44, 48]
def opens : Nat → List UInt8
  | 0 => []
  | i + 1 => opens i ++ [91]
def shuts (p : List UInt8) : Nat → List UInt8
  | 0 => p
  | i + 1 => shuts p i ++ [93]
def exes : Nat → List UInt8
  | 0 => [34]
  | i + 1 => exes i ++ [120]
theorem zeros_len : ∀ n, (zeros n).length = 2 + 2 * n
  | 0 => rfl
  | n + 1 => by rw [zeros, List.length_append, zeros_len n]; simp only [List.length_cons, List.length_nil]; omega
theorem opens_len : ∀ n, (opens n).length = n
  | 0 => rfl
  | n + 1 => by rw [opens, List.length_append, opens_len n]; rfl
theorem shuts_len (p : List UInt8) : ∀ n, (shuts p n).length = p.length + n
  | 0 => rfl
  | n + 1 => by rw [shuts, List.length_append, shuts_len p n]; rfl
theorem exes_len : ∀ n, (exes n).length = 1 + n
  | 0 => rfl
  | n + 1 => by rw [exes, List.length_append, exes_len n]; simp only [List.length_cons, List.length_nil]; omega
theorem exes_eq : ∀ n, exes n = 34 :: List.replicate n 120
  | 0 => rfl
  | n + 1 => by rw [exes, exes_eq n, List.replicate_succ', List.cons_append]
theorem lim_z0 : (parseS (zeros 254 ++ [93])).2 = 0 := by kernel_rfl
theorem lim_z1 : parseS (zeros 255 ++ [93]) = ([], 14) := by kernel_rfl
theorem lim_b0 : (parseS (shuts (opens 8) 8)).2 = 0 := by kernel_rfl
theorem lim_b1 : parseS (shuts (opens 9) 9) = ([], 13) := by kernel_rfl
theorem ex_get (n i : Nat) (h : i < n) : (exes n ++ [34]).getD (i + 1) default = 120 := by
  rw [exes_eq, List.cons_append, List.getD_cons_succ, List.getD_eq_getElem?_getD, List.getElem?_append_left (by simpa using h), List.getElem?_replicate, if_pos h]
  rfl
theorem ex_end (n : Nat) : (exes n ++ [34]).getD (n + 1) default = 34 := by
  rw [exes_eq, List.cons_append, List.getD_cons_succ, List.getD_eq_getElem?_getD, List.getElem?_append_right (by simp)]
  simp
theorem ex_drop (n i : Nat) (h : i < n) : (exes n ++ [34]).drop (i + 1) = 120 :: (exes n ++ [34]).drop (i + 2) := by
  rw [drop_at _ _ (by rw [List.length_append, exes_len]; simp only [List.length_cons, List.length_nil]; omega), ex_get n i h]
theorem dec120 (l : List UInt8) : Go.Lib.decodeL (120 :: l) = (120, 1) := by
  rw [Go.Lib.decodeL_N]
  unfold Go.Lib.decodeN
  simp
theorem ex_tx (n : Nat) : ∀ (k i m : Nat) (out : List UInt8), i + k = n → k < m → ∃ o, txC (exes n ++ [34]) m (i + 1) out = (o, true, n + 2)
  | 0, i, m + 1, out, hk, hm => by
    obtain rfl : i = n := by omega
    refine ⟨out, ?_⟩
    unfold txC
    rw [if_neg (by rw [List.length_append, exes_len]; simp only [List.length_cons, List.length_nil]; omega), if_pos (ex_end i)]
  | k + 1, i, m + 1, out, hk, hm => by
    obtain ⟨o, ho⟩ := ex_tx n k (i + 1) m (out ++ [120]) (by omega) (by omega)
    refine ⟨o, ?_⟩
    unfold txC
    rw [if_neg (by rw [List.length_append, exes_len]; simp only [List.length_cons, List.length_nil]; omega), ex_get n i (by omega), ex_drop n i (by omega), dec120]
    simpa using ho
theorem lim_x0 : (parseS (exes 4094 ++ [34])).2 = 0 := by
  obtain ⟨b, hb⟩ : ∃ b, exes 4094 ++ [34] = b := ⟨_, rfl⟩
  have hl : b.length = 4096 := by rw [← hb, List.length_append, exes_len]; rfl
  have h0 : b.getD 0 default = 34 := by rw [← hb, exes_eq]; rfl
  obtain ⟨o, ho⟩ := ex_tx 4094 4094 0 (b.length + 1) [] (by omega) (by omega)
  rw [hb] at ho ⊢
  have hn0 : nextAt b 0 = 0 := nextAt_stop b 0 (by omega) (by rw [h0]; decide)
  have hn1 : nextAt b 4096 = 4096 := nextAt_end b 4096 (by omega)
  have hh : hereS ⟨b, 0, 0, [], 0⟩ = (34, ⟨b, 0, 0, [], 0⟩) := by
    unfold hereS
    rw [if_neg (by simp)]
    simp only [hn0]
    rw [if_pos (by omega), h0]
  have hr : roomS ⟨b, 0, 0, [], 0⟩ = ⟨b, 0, 0, [], 0⟩ := by
    unfold roomS
    rw [hh]
    rfl
  have ht : textS ⟨b, 0, 0, [zeroJ], 0⟩ = (o, ⟨b, 4096, 0, [zeroJ], 0⟩) := by
    unfold textS
    simp only [ho]
    rfl
  have hv : (valS 9 ⟨b, 0, 0, [], 0⟩).2 = ⟨b, 4096, 0, [⟨3, o, [], []⟩], 0⟩ := by
    show (valueS (valS 8) ⟨b, 0, 0, [], 0⟩).2 = _
    unfold valueS
    rw [hr, hh]
    unfold bodyS
    simp only [List.nil_append, ht]
    rfl
  unfold parseS
  rw [if_neg (by omega)]
  simp only [hv]
  unfold hereS
  simp only [hn1]
  simp [hl]
def k6_VsLLim : List Nat := [0,1,4,5,6,7,8,9,11,16,18,19,20,26,29,30,31,37,40,41,42,47,48,49,60]
attribute [go_sem] k6_VsLLim
theorem f6_ok (k n : UInt8) : CallsP Tryd.prog 6 [.int .u8 (k.toNat : Int), .int .u8 (n.toNat : Int)] (.bool true) := by
  obtain ⟨d, hd, hd2⟩ : ∃ d : Nat, (n.toNat : Int) % 2 = (d : Int) ∧ d < 2 := ⟨n.toNat % 2, by omega, by omega⟩
  obtain ⟨e, he, he2⟩ : ∃ e : Nat, (k.toNat : Int) % 3 = (e : Int) ∧ e < 3 := ⟨k.toNat % 3, by omega, by omega⟩
  have ei : ∀ i : Nat, (i : Int) + 1 = ((i + 1 : Nat) : Int) := fun i => by omega
  have e254 : (254 : Int) + (d : Int) = ((254 + d : Nat) : Int) := by omega
  have e8 : (8 : Int) + (d : Int) = ((8 + d : Nat) : Int) := by omega
  have e4094 : (4094 : Int) + (d : Int) = ((4094 + d : Nat) : Int) := by omega
  have hdd : d = 0 ∨ d = 1 := by omega
  by_cases h0 : e = 0
  · subst h0
    refine CallsP.intro Tryd.func6 rfl (by show 2 ≤ 76; decide) ?_
    rintro X hX
    have hn : X.n = 76 := hX
    unfold Tryd.f6
    dsimp only
    rw [entry2]
    repeat' first
     | with_reducible refine Rl.go (by constructor <;> decide) ?_
     | ((with_reducible first | refine hK _ ?_ | refine hK.1 ?_ | refine hK.2 ?_); clear hK K)
     | ((with_reducible refine condS hK (fun hg => ?_) fun hg => ?_) <;> clear hK K <;> (try simp only [hgW] at hg) <;> try (exfalso; omega))
     | ((first | ((with_reducible first | refine Rk.go k6_VsLLim (by constructor) ?_); intro K hK) | with_reducible refine Rr.go [] (by constructor) ?_ | (with_reducible refine guardP_split (fun hg => ?_) fun hg => ?_) <;> (try simp only [hg]) <;> (try simp only [hgW] at hg) | refine Rc.go f14_ok (by constructor) ?_) <;> simp -implicitDefEqProofs only [hd, he, e254, hn, go_sem, simprocAttr] <;> try (simp (disch := omega) only [wrW]; try simp -implicitDefEqProofs only [hd, he, e254, hn, go_sem, simprocAttr]))
     | with_reducible refine And.intro (by first | omega | (simp only [hgW]; omega)) ?_
     | (exfalso; omega)
    refine AWP.loopX [4, 5, 6, 7, 29, 30] [] (fun i : Nat => St.mk (lk [(4, .bool false), (5, .int .i64 (d : Int)), (6, .str (zeros i)), (7, .int .i64 14), (29, .int .i64 ((254 + d : Nat) : Int)), (30, .int .i64 (i : Int))]) (lkB []) (hasS []) (hasS []) (hasN []) (lkR []))
      (fun i => i ≤ 254 + d) (fun i => 254 + d - i) 0 ?_ (Nat.zero_le _) ?_
    · simp -implicitDefEqProofs only [zeros, hn, go_sem, simprocAttr]
      try rfl
    intro i hi
    try dsimp only
    have hzl := zeros_len i
    by_cases hil : i = 254 + d
    · subst hil
      have ca := f17_ok (zeros (254 + d) ++ [93]) false
      have cb := f16_ok (zeros (254 + d) ++ [93]) false (by simp; omega)
      have hzz := zeros_len (254 + d)
      rcases hdd with rfl | rfl
      · have hp := lim_z0
        obtain ⟨z, hz⟩ : ∃ z, zeros (254 + 0) = z := ⟨_, rfl⟩
        rw [hz] at ca cb hp hzl ⊢
        rw [hp] at ca
        repeat' first
         | with_reducible refine Rl.go (by constructor <;> decide) ?_
         | ((with_reducible first | refine hK _ ?_ | refine hK.1 ?_ | refine hK.2 ?_); clear hK K)
         | ((with_reducible refine condS hK (fun hg => ?_) fun hg => ?_) <;> clear hK K <;> (try simp only [hgW] at hg) <;> try (exfalso; omega))
         | ((first | ((with_reducible first | refine Rk.go k6_VsLLim (by constructor) ?_); intro K hK) | with_reducible refine Rr.go [] (by constructor) ?_ | (with_reducible refine guardP_split (fun hg => ?_) fun hg => ?_) <;> (try simp only [hg]) <;> (try simp only [hgW] at hg) | refine Rc.go ca (by constructor) ?_ | refine Rc.go cb (by constructor) ?_) <;> simp -implicitDefEqProofs only [hzl, hn, go_sem, simprocAttr] <;> try (simp (disch := omega) only [wrW]; try simp -implicitDefEqProofs only [hzl, hn, go_sem, simprocAttr]))
         | with_reducible refine And.intro (by first | omega | (simp only [hgW]; omega)) ?_
         | (exfalso; omega)
      · have hp := lim_z1
        obtain ⟨z, hz⟩ : ∃ z, zeros (254 + 1) = z := ⟨_, rfl⟩
        rw [hz] at ca cb hp hzl ⊢
        rw [hp] at ca
        repeat' first
         | with_reducible refine Rl.go (by constructor <;> decide) ?_
         | ((with_reducible first | refine hK _ ?_ | refine hK.1 ?_ | refine hK.2 ?_); clear hK K)
         | ((with_reducible refine condS hK (fun hg => ?_) fun hg => ?_) <;> clear hK K <;> (try simp only [hgW] at hg) <;> try (exfalso; omega))
         | ((first | ((with_reducible first | refine Rk.go k6_VsLLim (by constructor) ?_); intro K hK) | with_reducible refine Rr.go [] (by constructor) ?_ | (with_reducible refine guardP_split (fun hg => ?_) fun hg => ?_) <;> (try simp only [hg]) <;> (try simp only [hgW] at hg) | refine Rc.go ca (by constructor) ?_) <;> simp -implicitDefEqProofs only [hzl, hn, go_sem, simprocAttr] <;> try (simp (disch := omega) only [wrW]; try simp -implicitDefEqProofs only [hzl, hn, go_sem, simprocAttr]))
         | with_reducible refine And.intro (by first | omega | (simp only [hgW]; omega)) ?_
         | (exfalso; omega)
    · have hs : zeros (i + 1) = zeros i ++ [44, 48] := rfl
      obtain ⟨z, hz⟩ : ∃ z, zeros i = z := ⟨_, rfl⟩
      rw [hz] at hs hzl ⊢
      repeat' first
       | with_reducible refine Rl.go (by constructor <;> decide) ?_
       | ((with_reducible first | refine hK _ ?_ | refine hK.1 ?_ | refine hK.2 ?_); clear hK K)
       | ((with_reducible refine condS hK (fun hg => ?_) fun hg => ?_) <;> clear hK K <;> (try simp only [hgW] at hg) <;> try (exfalso; omega))
       | ((first | ((with_reducible first | refine Rk.go k6_VsLLim (by constructor) ?_); intro K hK) | with_reducible refine Rr.go [] (by constructor) ?_ | (with_reducible refine guardP_split (fun hg => ?_) fun hg => ?_) <;> (try simp only [hg]) <;> (try simp only [hgW] at hg)) <;> simp -implicitDefEqProofs only [ei, hn, go_sem, simprocAttr] <;> try (simp (disch := omega) only [wrW]; try simp -implicitDefEqProofs only [ei, hn, go_sem, simprocAttr]))
       | with_reducible refine And.intro (by first | omega | (simp only [hgW]; omega)) ?_
       | (exfalso; omega)
      refine ⟨i + 1, ?_, by omega, by omega⟩
      rw [hs]
      simp -implicitDefEqProofs only [hn, go_sem, simprocAttr]
      try rfl
  by_cases h1 : e = 1
  · subst h1
    refine CallsP.intro Tryd.func6 rfl (by show 2 ≤ 76; decide) ?_
    rintro X hX
    have hn : X.n = 76 := hX
    unfold Tryd.f6
    dsimp only
    rw [entry2]
    repeat' first
     | with_reducible refine Rl.go (by constructor <;> decide) ?_
     | ((with_reducible first | refine hK _ ?_ | refine hK.1 ?_ | refine hK.2 ?_); clear hK K)
     | ((with_reducible refine condS hK (fun hg => ?_) fun hg => ?_) <;> clear hK K <;> (try simp only [hgW] at hg) <;> try (exfalso; omega))
     | ((first | ((with_reducible first | refine Rk.go k6_VsLLim (by constructor) ?_); intro K hK) | with_reducible refine Rr.go [] (by constructor) ?_ | (with_reducible refine guardP_split (fun hg => ?_) fun hg => ?_) <;> (try simp only [hg]) <;> (try simp only [hgW] at hg) | refine Rc.go f14_ok (by constructor) ?_) <;> simp -implicitDefEqProofs only [hd, he, e8, hn, go_sem, simprocAttr] <;> try (simp (disch := omega) only [wrW]; try simp -implicitDefEqProofs only [hd, he, e8, hn, go_sem, simprocAttr]))
     | with_reducible refine And.intro (by first | omega | (simp only [hgW]; omega)) ?_
     | (exfalso; omega)
    refine AWP.loopX [4, 5, 6, 7, 40, 41] [] (fun i : Nat => St.mk (lk [(4, .bool false), (5, .int .i64 (d : Int)), (6, .str (opens i)), (7, .int .i64 13), (40, .int .i64 ((8 + d : Nat) : Int)), (41, .int .i64 (i : Int))]) (lkB []) (hasS []) (hasS []) (hasN []) (lkR []))
      (fun i => i ≤ 8 + d) (fun i => 8 + d - i) 0 ?_ (Nat.zero_le _) ?_
    · simp -implicitDefEqProofs only [opens, hn, go_sem, simprocAttr]
      try rfl
    intro i hi
    try dsimp only
    have hzl := opens_len i
    by_cases hil : i = 8 + d
    · subst hil
      obtain ⟨q, hq⟩ : ∃ q, opens (8 + d) = q := ⟨_, rfl⟩
      rw [hq] at hzl ⊢
      repeat' first
       | with_reducible refine Rl.go (by constructor <;> decide) ?_
       | ((with_reducible first | refine hK _ ?_ | refine hK.1 ?_ | refine hK.2 ?_); clear hK K)
       | ((with_reducible refine condS hK (fun hg => ?_) fun hg => ?_) <;> clear hK K <;> (try simp only [hgW] at hg) <;> try (exfalso; omega))
       | ((first | ((with_reducible first | refine Rk.go k6_VsLLim (by constructor) ?_); intro K hK) | with_reducible refine Rr.go [] (by constructor) ?_ | (with_reducible refine guardP_split (fun hg => ?_) fun hg => ?_) <;> (try simp only [hg]) <;> (try simp only [hgW] at hg)) <;> simp -implicitDefEqProofs only [e8, hn, go_sem, simprocAttr] <;> try (simp (disch := omega) only [wrW]; try simp -implicitDefEqProofs only [e8, hn, go_sem, simprocAttr]))
       | with_reducible refine And.intro (by first | omega | (simp only [hgW]; omega)) ?_
       | (exfalso; omega)
      refine AWP.loopX [4, 5, 6, 7, 47, 48] [] (fun i : Nat => St.mk (lk [(4, .bool false), (5, .int .i64 (d : Int)), (6, .str (shuts q i)), (7, .int .i64 13), (47, .int .i64 ((8 + d : Nat) : Int)), (48, .int .i64 (i : Int))]) (lkB []) (hasS []) (hasS []) (hasN []) (lkR []))
        (fun i => i ≤ 8 + d) (fun i => 8 + d - i) 0 ?_ (Nat.zero_le _) ?_
      · simp -implicitDefEqProofs only [shuts, hn, go_sem, simprocAttr]
        try rfl
      intro i hi
      try dsimp only
      have hzl2 := shuts_len q i
      by_cases hil : i = 8 + d
      · subst hil
        have ca := f17_ok (shuts q (8 + d)) false
        have cb := f16_ok (shuts q (8 + d)) false (by omega)
        rcases hdd with rfl | rfl
        · have hp := lim_b0
          rw [show opens 8 = q from hq] at hp
          obtain ⟨z, hz⟩ : ∃ z, shuts q (8 + 0) = z := ⟨_, rfl⟩
          rw [hz] at ca cb hzl2 ⊢
          rw [show shuts q 8 = z from hz] at hp
          rw [hp] at ca
          repeat' first
           | with_reducible refine Rl.go (by constructor <;> decide) ?_
           | ((with_reducible first | refine hK _ ?_ | refine hK.1 ?_ | refine hK.2 ?_); clear hK K)
           | ((with_reducible refine condS hK (fun hg => ?_) fun hg => ?_) <;> clear hK K <;> (try simp only [hgW] at hg) <;> try (exfalso; omega))
           | ((first | ((with_reducible first | refine Rk.go k6_VsLLim (by constructor) ?_); intro K hK) | with_reducible refine Rr.go [] (by constructor) ?_ | (with_reducible refine guardP_split (fun hg => ?_) fun hg => ?_) <;> (try simp only [hg]) <;> (try simp only [hgW] at hg) | refine Rc.go ca (by constructor) ?_ | refine Rc.go cb (by constructor) ?_) <;> simp -implicitDefEqProofs only [hzl2, hn, go_sem, simprocAttr] <;> try (simp (disch := omega) only [wrW]; try simp -implicitDefEqProofs only [hzl2, hn, go_sem, simprocAttr]))
           | with_reducible refine And.intro (by first | omega | (simp only [hgW]; omega)) ?_
           | (exfalso; omega)
        · have hp := lim_b1
          rw [show opens 9 = q from hq] at hp
          obtain ⟨z, hz⟩ : ∃ z, shuts q (8 + 1) = z := ⟨_, rfl⟩
          rw [hz] at ca cb hzl2 ⊢
          rw [show shuts q 9 = z from hz] at hp
          rw [hp] at ca
          repeat' first
           | with_reducible refine Rl.go (by constructor <;> decide) ?_
           | ((with_reducible first | refine hK _ ?_ | refine hK.1 ?_ | refine hK.2 ?_); clear hK K)
           | ((with_reducible refine condS hK (fun hg => ?_) fun hg => ?_) <;> clear hK K <;> (try simp only [hgW] at hg) <;> try (exfalso; omega))
           | ((first | ((with_reducible first | refine Rk.go k6_VsLLim (by constructor) ?_); intro K hK) | with_reducible refine Rr.go [] (by constructor) ?_ | (with_reducible refine guardP_split (fun hg => ?_) fun hg => ?_) <;> (try simp only [hg]) <;> (try simp only [hgW] at hg) | refine Rc.go ca (by constructor) ?_) <;> simp -implicitDefEqProofs only [hzl2, hn, go_sem, simprocAttr] <;> try (simp (disch := omega) only [wrW]; try simp -implicitDefEqProofs only [hzl2, hn, go_sem, simprocAttr]))
           | with_reducible refine And.intro (by first | omega | (simp only [hgW]; omega)) ?_
           | (exfalso; omega)
      · have hs : shuts q (i + 1) = shuts q i ++ [93] := rfl
        obtain ⟨z, hz⟩ : ∃ z, shuts q i = z := ⟨_, rfl⟩
        rw [hz] at hs hzl2 ⊢
        repeat' first
         | with_reducible refine Rl.go (by constructor <;> decide) ?_
         | ((with_reducible first | refine hK _ ?_ | refine hK.1 ?_ | refine hK.2 ?_); clear hK K)
         | ((with_reducible refine condS hK (fun hg => ?_) fun hg => ?_) <;> clear hK K <;> (try simp only [hgW] at hg) <;> try (exfalso; omega))
         | ((first | ((with_reducible first | refine Rk.go k6_VsLLim (by constructor) ?_); intro K hK) | with_reducible refine Rr.go [] (by constructor) ?_ | (with_reducible refine guardP_split (fun hg => ?_) fun hg => ?_) <;> (try simp only [hg]) <;> (try simp only [hgW] at hg)) <;> simp -implicitDefEqProofs only [ei, hn, go_sem, simprocAttr] <;> try (simp (disch := omega) only [wrW]; try simp -implicitDefEqProofs only [ei, hn, go_sem, simprocAttr]))
         | with_reducible refine And.intro (by first | omega | (simp only [hgW]; omega)) ?_
         | (exfalso; omega)
        refine ⟨i + 1, ?_, by omega, by omega⟩
        rw [hs]
        simp -implicitDefEqProofs only [hn, go_sem, simprocAttr]
        try rfl
    · have hs : opens (i + 1) = opens i ++ [91] := rfl
      obtain ⟨z, hz⟩ : ∃ z, opens i = z := ⟨_, rfl⟩
      rw [hz] at hs hzl ⊢
      repeat' first
       | with_reducible refine Rl.go (by constructor <;> decide) ?_
       | ((with_reducible first | refine hK _ ?_ | refine hK.1 ?_ | refine hK.2 ?_); clear hK K)
       | ((with_reducible refine condS hK (fun hg => ?_) fun hg => ?_) <;> clear hK K <;> (try simp only [hgW] at hg) <;> try (exfalso; omega))
       | ((first | ((with_reducible first | refine Rk.go k6_VsLLim (by constructor) ?_); intro K hK) | with_reducible refine Rr.go [] (by constructor) ?_ | (with_reducible refine guardP_split (fun hg => ?_) fun hg => ?_) <;> (try simp only [hg]) <;> (try simp only [hgW] at hg)) <;> simp -implicitDefEqProofs only [ei, hn, go_sem, simprocAttr] <;> try (simp (disch := omega) only [wrW]; try simp -implicitDefEqProofs only [ei, hn, go_sem, simprocAttr]))
       | with_reducible refine And.intro (by first | omega | (simp only [hgW]; omega)) ?_
       | (exfalso; omega)
      refine ⟨i + 1, ?_, by omega, by omega⟩
      rw [hs]
      simp -implicitDefEqProofs only [hn, go_sem, simprocAttr]
      try rfl
  · obtain rfl : e = 2 := by omega
    refine CallsP.intro Tryd.func6 rfl (by show 2 ≤ 76; decide) ?_
    rintro X hX
    have hn : X.n = 76 := hX
    unfold Tryd.f6
    dsimp only
    rw [entry2]
    repeat' first
     | with_reducible refine Rl.go (by constructor <;> decide) ?_
     | ((with_reducible first | refine hK _ ?_ | refine hK.1 ?_ | refine hK.2 ?_); clear hK K)
     | ((with_reducible refine condS hK (fun hg => ?_) fun hg => ?_) <;> clear hK K <;> (try simp only [hgW] at hg) <;> try (exfalso; omega))
     | ((first | ((with_reducible first | refine Rk.go k6_VsLLim (by constructor) ?_); intro K hK) | with_reducible refine Rr.go [] (by constructor) ?_ | (with_reducible refine guardP_split (fun hg => ?_) fun hg => ?_) <;> (try simp only [hg]) <;> (try simp only [hgW] at hg) | refine Rc.go f14_ok (by constructor) ?_) <;> simp -implicitDefEqProofs only [hd, he, e4094, hn, go_sem, simprocAttr] <;> try (simp (disch := omega) only [wrW]; try simp -implicitDefEqProofs only [hd, he, e4094, hn, go_sem, simprocAttr]))
     | with_reducible refine And.intro (by first | omega | (simp only [hgW]; omega)) ?_
     | (exfalso; omega)
    refine AWP.loopX [4, 5, 6, 7, 18, 19] [] (fun i : Nat => St.mk (lk [(4, .bool false), (5, .int .i64 (d : Int)), (6, .str (exes i)), (7, .int .i64 3), (18, .int .i64 ((4094 + d : Nat) : Int)), (19, .int .i64 (i : Int))]) (lkB []) (hasS []) (hasS []) (hasN []) (lkR []))
      (fun i => i ≤ 4094 + d) (fun i => 4094 + d - i) 0 ?_ (Nat.zero_le _) ?_
    · simp -implicitDefEqProofs only [exes, hn, go_sem, simprocAttr]
      try rfl
    intro i hi
    try dsimp only
    have hzl := exes_len i
    by_cases hil : i = 4094 + d
    · subst hil
      have ca := f17_ok (exes (4094 + d) ++ [34]) false
      have cb := f16_ok (exes (4094 + d) ++ [34]) false (by simp; omega)
      rcases hdd with rfl | rfl
      · have hp := lim_x0
        obtain ⟨z, hz⟩ : ∃ z, exes (4094 + 0) = z := ⟨_, rfl⟩
        rw [hz] at ca cb hzl ⊢
        rw [show exes 4094 = z from hz] at hp
        rw [hp] at ca
        repeat' first
         | with_reducible refine Rl.go (by constructor <;> decide) ?_
         | ((with_reducible first | refine hK _ ?_ | refine hK.1 ?_ | refine hK.2 ?_); clear hK K)
         | ((with_reducible refine condS hK (fun hg => ?_) fun hg => ?_) <;> clear hK K <;> (try simp only [hgW] at hg) <;> try (exfalso; omega))
         | ((first | ((with_reducible first | refine Rk.go k6_VsLLim (by constructor) ?_); intro K hK) | with_reducible refine Rr.go [] (by constructor) ?_ | (with_reducible refine guardP_split (fun hg => ?_) fun hg => ?_) <;> (try simp only [hg]) <;> (try simp only [hgW] at hg) | refine Rc.go ca (by constructor) ?_ | refine Rc.go cb (by constructor) ?_) <;> simp -implicitDefEqProofs only [hzl, hn, go_sem, simprocAttr] <;> try (simp (disch := omega) only [wrW]; try simp -implicitDefEqProofs only [hzl, hn, go_sem, simprocAttr]))
         | with_reducible refine And.intro (by first | omega | (simp only [hgW]; omega)) ?_
         | (exfalso; omega)
      · have hp : parseS (exes (4094 + 1) ++ [34]) = ([], 3) := by
          unfold parseS
          rw [if_pos (by rw [List.length_append, exes_len]; decide)]
        obtain ⟨z, hz⟩ : ∃ z, exes (4094 + 1) = z := ⟨_, rfl⟩
        rw [hz] at ca cb hp hzl ⊢
        rw [hp] at ca
        repeat' first
         | with_reducible refine Rl.go (by constructor <;> decide) ?_
         | ((with_reducible first | refine hK _ ?_ | refine hK.1 ?_ | refine hK.2 ?_); clear hK K)
         | ((with_reducible refine condS hK (fun hg => ?_) fun hg => ?_) <;> clear hK K <;> (try simp only [hgW] at hg) <;> try (exfalso; omega))
         | ((first | ((with_reducible first | refine Rk.go k6_VsLLim (by constructor) ?_); intro K hK) | with_reducible refine Rr.go [] (by constructor) ?_ | (with_reducible refine guardP_split (fun hg => ?_) fun hg => ?_) <;> (try simp only [hg]) <;> (try simp only [hgW] at hg) | refine Rc.go ca (by constructor) ?_) <;> simp -implicitDefEqProofs only [hzl, hn, go_sem, simprocAttr] <;> try (simp (disch := omega) only [wrW]; try simp -implicitDefEqProofs only [hzl, hn, go_sem, simprocAttr]))
         | with_reducible refine And.intro (by first | omega | (simp only [hgW]; omega)) ?_
         | (exfalso; omega)
    · have hs : exes (i + 1) = exes i ++ [120] := rfl
      obtain ⟨z, hz⟩ : ∃ z, exes i = z := ⟨_, rfl⟩
      rw [hz] at hs hzl ⊢
      repeat' first
       | with_reducible refine Rl.go (by constructor <;> decide) ?_
       | ((with_reducible first | refine hK _ ?_ | refine hK.1 ?_ | refine hK.2 ?_); clear hK K)
       | ((with_reducible refine condS hK (fun hg => ?_) fun hg => ?_) <;> clear hK K <;> (try simp only [hgW] at hg) <;> try (exfalso; omega))
       | ((first | ((with_reducible first | refine Rk.go k6_VsLLim (by constructor) ?_); intro K hK) | with_reducible refine Rr.go [] (by constructor) ?_ | (with_reducible refine guardP_split (fun hg => ?_) fun hg => ?_) <;> (try simp only [hg]) <;> (try simp only [hgW] at hg)) <;> simp -implicitDefEqProofs only [ei, hn, go_sem, simprocAttr] <;> try (simp (disch := omega) only [wrW]; try simp -implicitDefEqProofs only [ei, hn, go_sem, simprocAttr]))
       | with_reducible refine And.intro (by first | omega | (simp only [hgW]; omega)) ?_
       | (exfalso; omega)
      refine ⟨i + 1, ?_, by omega, by omega⟩
      rw [hs]
      simp -implicitDefEqProofs only [hn, go_sem, simprocAttr]
      try rfl
end Go.Proofs.YtfemncfhiihckaaDoor
