/- What the reader's values come to, by depth. -/
import Derived.Test.YtfemncfhiihckaaDoorVsJVal2
open Go Go.VS
namespace Go.Proofs.YtfemncfhiihckaaDoor
set_option linter.unusedVariables false
set_option linter.unusedSimpArgs false
set_option maxRecDepth 20000
set_option maxHeartbeats 4000000
theorem set_av (l : List JN) (n k : Nat) (t : List UInt8) (ns : List (List UInt8)) (ks : List Nat) : (l.set n ⟨k, t, ns, ks⟩).map JN.av = (l.map JN.av).set n (.agg [.int .u8 (k : Int), .str t, .sl none ns.isEmpty 1 (ns.map .str), .sl none ks.isEmpty 1 (ks.map i64n)]) := by
  rw [List.map_set]; rfl
theorem set_av0 (l : List JN) (n k : Nat) (t : List UInt8) : (l.set n ⟨k, t, [], []⟩).map JN.av = (l.map JN.av).set n (.agg [.int .u8 (k : Int), .str t, .sl none true 1 [], .sl none true 1 []]) := by
  rw [List.map_set]; rfl
theorem set_emp (l : List JN) (n : Nat) (x : JN) : (l.set n x).isEmpty = l.isEmpty := by cases l with | nil => rfl | cons a l => cases n <;> rfl
def k31_VsJVal3 : List Nat := [0,2,3,4,5,20,27,45,50,55,61]
def a31_18_VsJVal3 : List Nat := [0,1,3,7,0,0,63,127]
def o31_18_VsJVal3 : List Nat := [0,1,2,3,4,5,6,7]
attribute [go_sem] k31_VsJVal3 a31_18_VsJVal3 o31_18_VsJVal3
theorem f31_ok {val : RJ → Nat × RJ} (K : KeepV val) (hm : ∀ s, OkJ s → s.nodes.length ≤ (val s).2.nodes.length) (d : Nat) (hd8 : d ≤ 8) (hit : d + 1 ≤ 8 → ValOk val (d + 1)) : ValOk (valueS val) d := by
  intro s nb hsd hok
  have c32 := f32_ok s nb (by have := hok.len; omega)
  have kh := keep_here s hok
  have hcc := here_c s
  obtain ⟨q1, q2, q3, q4⟩ := hereS_b s
  obtain ⟨R, hR⟩ : ∃ R, valueS val s = R := ⟨_, rfl⟩
  rw [hR]
  unfold valueS roomS at hR
  generalize hereS s = H at *
  obtain ⟨c, H2⟩ := H
  simp only at c32 kh hcc q1 q2 q3 q4 hR
  have hct := c.toNat_lt
  by_cases h256 : H2.err = 0 ∧ 256 ≤ H2.nodes.length
  · rw [if_pos h256] at hR
    have c33 := f33_ok H2 nb 14
    obtain ⟨w1, w2, w3, w4, w5⟩ := fail_b H2 14
    generalize H2.fail 14 = F at *
    rw [if_pos (w5 (by decide))] at hR
    subst hR
    have w5' := w5 (by decide)
    obtain ⟨g1, g2⟩ := h256
    obtain ⟨b, at_, deep, nodes, err⟩ := s
    obtain ⟨Hb, Ha, Hd, Hn, He⟩ := H2
    obtain ⟨Fb, Fa, Fd, Fn, Fe⟩ := F
    simp only at g1 g2 w1 w2 w3 w4 w5' q1 q2 q3 q4
    subst g1
    refine CallsB.intro Tryd.func31 rfl (by show 1 ≤ 83; decide) ?_
    rintro X hX
    have hn : X.n = 83 := hX
    unfold Tryd.f31
    dsimp only
    rw [entryB11]
    repeat' first
     | with_reducible refine Rl.go (by constructor <;> decide) ?_
     | ((with_reducible first | refine hK _ ?_ | refine hK.1 ?_ | refine hK.2 ?_); clear hK K)
     | ((with_reducible refine condS hK (fun hg => ?_) fun hg => ?_) <;> clear hK K <;> (try simp only [hgW] at hg) <;> try (exfalso; omega))
     | ((first | ((with_reducible first | refine Rk.go k31_VsJVal3 (by constructor) ?_ | refine Rd.go 18 k31_VsJVal3 a31_18_VsJVal3 o31_18_VsJVal3 mixed (by constructor) (by kernel_rfl) (by kernel_rfl) ?_); intro K hK) | with_reducible refine Rr.go [] (by constructor) ?_ | (with_reducible refine guardP_split (fun hg => ?_) fun hg => ?_) <;> (try simp only [hg]) <;> (try simp only [hgW] at hg) | (with_reducible refine callE_B3 c32 ?_) | (with_reducible refine callE_B3 c33 ?_)) <;> simp -implicitDefEqProofs only [eqOk_true, RJ.cells, w5', hn, go_sem, simprocAttr] <;> try (simp (disch := omega) only [wrW]; try simp -implicitDefEqProofs only [RJ.cells, w5', hn, go_sem, simprocAttr]))
     | with_reducible refine And.intro (by first | omega | (simp only [hgW]; omega)) ?_
     | (exfalso; omega)
  rw [if_neg h256] at hR
  by_cases he : H2.err = 0
  · rw [if_neg (by simpa using he)] at hR
    have hn256 : H2.nodes.length < 256 := Nat.lt_of_not_le fun h => h256 ⟨he, h⟩
    have hc0 : c ≠ 0 → H2.at_ < H2.b.length ∧ H2.b.getD H2.at_ default = c := hcc (by rw [← q4]; exact he)
    have hO2 : OkJ { H2 with nodes := H2.nodes ++ [zeroJ] } := ⟨kh.ok.at_, kh.ok.len, by simp only [List.length_append, List.length_cons, List.length_nil]; omega⟩
    have kb := keep_body K hm c { H2 with nodes := H2.nodes ++ [zeroJ] } hO2 (fun h0 => (hc0 h0).1)
    have e1 : H2.nodes.map JN.av ++ [AV.agg [.int .u8 0, .str [], .sl none true 1 [], .sl none true 1 []]] = (H2.nodes ++ [zeroJ]).map JN.av := by rw [List.map_append]; rfl
    have e2 : (H2.nodes ++ [zeroJ]).isEmpty = false := by simp
    have hbm := kb.more
    simp only [List.length_append, List.length_cons, List.length_nil] at hbm
    have hdd : H2.deep = d := by rw [q2]; exact hsd
    obtain ⟨S2, hS2⟩ : ∃ S2, ({ H2 with nodes := H2.nodes ++ [zeroJ] } : RJ) = S2 := ⟨_, rfl⟩
    have z1 : S2.b = H2.b := by rw [← hS2]
    have z2 : S2.at_ = H2.at_ := by rw [← hS2]
    have z3 : S2.deep = d := by rw [← hS2]; exact hdd
    have z4 : S2.nodes = H2.nodes ++ [zeroJ] := by rw [← hS2]
    have z5 : S2.err = 0 := by rw [← hS2]; exact he
    rw [hS2] at kb hO2 hbm hR
    unfold bodyS at hR hbm
    have hset : ∀ l : List JN, (l.set H2.nodes.length zeroJ).length = l.length := fun l => List.length_set
    by_cases hc1 : c = 123
    · rw [if_pos hc1] at hR hbm
      have hci : (c.toNat : Int) = 123 := by rw [hc1]; rfl
      have c42 := f42_ok K S2 nb (by rw [z3]; exact hit) hO2 (by rw [z1, z2]; exact (hc0 (by rw [hc1]; decide)).1) (by omega)
      generalize objectS val S2 = B at *
      obtain ⟨⟨xk, xt, xn, xs⟩, T⟩ := B
      simp only at hR hbm c42
      subst hR
      obtain ⟨b, at_, deep, nodes, err⟩ := s
      obtain ⟨Hb, Ha, Hd, Hn, He⟩ := H2
      obtain ⟨Sb, Sa, Sd, Sn, Se⟩ := S2
      obtain ⟨Tb, Ta, Td, Tn, Te⟩ := T
      simp only at he z1 z2 z3 z4 z5 e1 e2 hbm hn256 hdd
      subst he z1 z2 z3 z4 z5 hdd
      refine CallsB.intro Tryd.func31 rfl (by show 1 ≤ 83; decide) ?_
      rintro X hX
      have hn : X.n = 83 := hX
      unfold Tryd.f31
      dsimp only
      rw [entryB11]
      repeat' first
       | with_reducible refine Rl.go (by constructor <;> decide) ?_
       | ((with_reducible first | refine hK _ ?_ | refine hK.1 ?_ | refine hK.2 ?_); clear hK K)
       | ((with_reducible refine condS hK (fun hg => ?_) fun hg => ?_) <;> clear hK K <;> (try simp only [hgW] at hg) <;> try (exfalso; omega))
       | ((first | ((with_reducible first | refine Rk.go k31_VsJVal3 (by constructor) ?_ | refine Rd.go 18 k31_VsJVal3 a31_18_VsJVal3 o31_18_VsJVal3 mixed (by constructor) (by kernel_rfl) (by kernel_rfl) ?_); intro K hK) | with_reducible refine Rr.go [] (by constructor) ?_ | (with_reducible refine guardP_split (fun hg => ?_) fun hg => ?_) <;> (try simp only [hg]) <;> (try simp only [hgW] at hg) | (with_reducible refine callE_B3 c32 ?_) | (with_reducible refine callE_B3 c42 ?_)) <;> simp -implicitDefEqProofs only [eqOk_true, RJ.cells, JN.av, hci, e1, e2, set_av, set_emp, hn, go_sem, simprocAttr] <;> try (simp (disch := omega) only [wrW]; try simp -implicitDefEqProofs only [RJ.cells, JN.av, hci, e1, e2, set_av, set_emp, hn, go_sem, simprocAttr]))
       | with_reducible refine And.intro (by first | omega | (simp only [hgW]; omega)) ?_
       | (exfalso; omega)
    rw [if_neg hc1] at hR hbm
    have n1 : ¬ (c.toNat : Int) = 123 := fun h => hc1 (UInt8.toNat_inj.1 (by simp; omega))
    by_cases hc2 : c = 91
    · rw [if_pos hc2] at hR hbm
      have hci : (c.toNat : Int) = 91 := by rw [hc2]; rfl
      have c43 := f43_ok K S2 nb (by rw [z3]; exact hit) hO2 (by rw [z1, z2]; exact (hc0 (by rw [hc2]; decide)).1) (by omega)
      generalize arrayS val S2 = B at *
      obtain ⟨⟨xk, xt, xn, xs⟩, T⟩ := B
      simp only at hR hbm c43
      subst hR
      obtain ⟨b, at_, deep, nodes, err⟩ := s
      obtain ⟨Hb, Ha, Hd, Hn, He⟩ := H2
      obtain ⟨Sb, Sa, Sd, Sn, Se⟩ := S2
      obtain ⟨Tb, Ta, Td, Tn, Te⟩ := T
      simp only at he z1 z2 z3 z4 z5 e1 e2 hbm hn256 hdd
      subst he z1 z2 z3 z4 z5 hdd
      refine CallsB.intro Tryd.func31 rfl (by show 1 ≤ 83; decide) ?_
      rintro X hX
      have hn : X.n = 83 := hX
      unfold Tryd.f31
      dsimp only
      rw [entryB11]
      repeat' first
       | with_reducible refine Rl.go (by constructor <;> decide) ?_
       | ((with_reducible first | refine hK _ ?_ | refine hK.1 ?_ | refine hK.2 ?_); clear hK K)
       | ((with_reducible refine condS hK (fun hg => ?_) fun hg => ?_) <;> clear hK K <;> (try simp only [hgW] at hg) <;> try (exfalso; omega))
       | ((first | ((with_reducible first | refine Rk.go k31_VsJVal3 (by constructor) ?_ | refine Rd.go 18 k31_VsJVal3 a31_18_VsJVal3 o31_18_VsJVal3 mixed (by constructor) (by kernel_rfl) (by kernel_rfl) ?_); intro K hK) | with_reducible refine Rr.go [] (by constructor) ?_ | (with_reducible refine guardP_split (fun hg => ?_) fun hg => ?_) <;> (try simp only [hg]) <;> (try simp only [hgW] at hg) | (with_reducible refine callE_B3 c32 ?_) | (with_reducible refine callE_B3 c43 ?_)) <;> simp -implicitDefEqProofs only [eqOk_true, RJ.cells, JN.av, hci, e1, e2, set_av, set_emp, hn, go_sem, simprocAttr] <;> try (simp (disch := omega) only [wrW]; try simp -implicitDefEqProofs only [RJ.cells, JN.av, hci, e1, e2, set_av, set_emp, hn, go_sem, simprocAttr]))
       | with_reducible refine And.intro (by first | omega | (simp only [hgW]; omega)) ?_
       | (exfalso; omega)
    rw [if_neg hc2] at hR hbm
    have n2 : ¬ (c.toNat : Int) = 91 := fun h => hc2 (UInt8.toNat_inj.1 (by simp; omega))
    by_cases hc3 : c = 34
    · rw [if_pos hc3] at hR hbm
      have hci : (c.toNat : Int) = 34 := by rw [hc3]; rfl
      have c44 := f44_ok S2 nb hO2.len (by rw [z1, z2]; exact (hc0 (by rw [hc3]; decide)).1)
      generalize textS S2 = B at *
      obtain ⟨xt, T⟩ := B
      simp only at hR hbm c44
      subst hR
      obtain ⟨b, at_, deep, nodes, err⟩ := s
      obtain ⟨Hb, Ha, Hd, Hn, He⟩ := H2
      obtain ⟨Sb, Sa, Sd, Sn, Se⟩ := S2
      obtain ⟨Tb, Ta, Td, Tn, Te⟩ := T
      simp only at he z1 z2 z3 z4 z5 e1 e2 hbm hn256 hdd
      subst he z1 z2 z3 z4 z5 hdd
      refine CallsB.intro Tryd.func31 rfl (by show 1 ≤ 83; decide) ?_
      rintro X hX
      have hn : X.n = 83 := hX
      unfold Tryd.f31
      dsimp only
      rw [entryB11]
      repeat' first
       | with_reducible refine Rl.go (by constructor <;> decide) ?_
       | ((with_reducible first | refine hK _ ?_ | refine hK.1 ?_ | refine hK.2 ?_); clear hK K)
       | ((with_reducible refine condS hK (fun hg => ?_) fun hg => ?_) <;> clear hK K <;> (try simp only [hgW] at hg) <;> try (exfalso; omega))
       | ((first | ((with_reducible first | refine Rk.go k31_VsJVal3 (by constructor) ?_ | refine Rd.go 18 k31_VsJVal3 a31_18_VsJVal3 o31_18_VsJVal3 mixed (by constructor) (by kernel_rfl) (by kernel_rfl) ?_); intro K hK) | with_reducible refine Rr.go [] (by constructor) ?_ | (with_reducible refine guardP_split (fun hg => ?_) fun hg => ?_) <;> (try simp only [hg]) <;> (try simp only [hgW] at hg) | (with_reducible refine callE_B3 c32 ?_) | (with_reducible refine callE_B3 c44 ?_)) <;> simp -implicitDefEqProofs only [eqOk_true, RJ.cells, JN.av, hci, e1, e2, set_av0, set_emp, hn, go_sem, simprocAttr] <;> try (simp (disch := omega) only [wrW]; try simp -implicitDefEqProofs only [RJ.cells, JN.av, hci, e1, e2, set_av0, set_emp, hn, go_sem, simprocAttr]))
       | with_reducible refine And.intro (by first | omega | (simp only [hgW]; omega)) ?_
       | (exfalso; omega)
    rw [if_neg hc3] at hR hbm
    have n3 : ¬ (c.toNat : Int) = 34 := fun h => hc3 (UInt8.toNat_inj.1 (by simp; omega))
    by_cases hc4 : c = 45 ∨ digit c = true
    · rw [if_pos hc4] at hR hbm
      have hne : c ≠ 0 := by rintro rfl; simp [digit] at hc4
      have hlt := hc0 hne
      have c45 := f45_ok S2 nb hO2.len (by rw [z1, z2]; exact hlt.1) (by rw [z1, z2, hlt.2]; exact hc4)
      have hdg : (c.toNat : Int) = 45 ∨ (¬ (c.toNat : Int) = 45 ∧ 48 ≤ c.toNat ∧ c.toNat ≤ 57) := by
        rcases hc4 with h | h
        · exact .inl (by rw [h]; rfl)
        · simp only [digit, Bool.and_eq_true, decide_eq_true_eq] at h
          exact .inr ⟨by omega, h⟩
      generalize numberS S2 = B at *
      obtain ⟨xt, T⟩ := B
      simp only at hR hbm c45
      subst hR
      obtain ⟨b, at_, deep, nodes, err⟩ := s
      obtain ⟨Hb, Ha, Hd, Hn, He⟩ := H2
      obtain ⟨Sb, Sa, Sd, Sn, Se⟩ := S2
      obtain ⟨Tb, Ta, Td, Tn, Te⟩ := T
      simp only at he z1 z2 z3 z4 z5 e1 e2 hbm hn256 hdd
      subst he z1 z2 z3 z4 z5 hdd
      rcases hdg with hd1 | ⟨hd1, hd2, hd3⟩
      · refine CallsB.intro Tryd.func31 rfl (by show 1 ≤ 83; decide) ?_
        rintro X hX
        have hn : X.n = 83 := hX
        unfold Tryd.f31
        dsimp only
        rw [entryB11]
        repeat' first
         | with_reducible refine Rl.go (by constructor <;> decide) ?_
         | ((with_reducible first | refine hK _ ?_ | refine hK.1 ?_ | refine hK.2 ?_); clear hK K)
         | ((with_reducible refine condS hK (fun hg => ?_) fun hg => ?_) <;> clear hK K <;> (try simp only [hgW] at hg) <;> try (exfalso; omega))
         | ((first | ((with_reducible first | refine Rk.go k31_VsJVal3 (by constructor) ?_ | refine Rd.go 18 k31_VsJVal3 a31_18_VsJVal3 o31_18_VsJVal3 mixed (by constructor) (by kernel_rfl) (by kernel_rfl) ?_); intro K hK) | with_reducible refine Rr.go [] (by constructor) ?_ | (with_reducible refine guardP_split (fun hg => ?_) fun hg => ?_) <;> (try simp only [hg]) <;> (try simp only [hgW] at hg) | (with_reducible refine callE_B3 c32 ?_) | (with_reducible refine callE_B3 c45 ?_)) <;> simp -implicitDefEqProofs only [eqOk_true, RJ.cells, JN.av, n1, n2, n3, hd1, e1, e2, set_av0, set_emp, hn, go_sem, simprocAttr] <;> try (simp (disch := omega) only [wrW]; try simp -implicitDefEqProofs only [RJ.cells, JN.av, n1, n2, n3, hd1, e1, e2, set_av0, set_emp, hn, go_sem, simprocAttr]))
         | with_reducible refine And.intro (by first | omega | (simp only [hgW]; omega)) ?_
         | (exfalso; omega)
      · refine CallsB.intro Tryd.func31 rfl (by show 1 ≤ 83; decide) ?_
        rintro X hX
        have hn : X.n = 83 := hX
        unfold Tryd.f31
        dsimp only
        rw [entryB11]
        repeat' first
         | with_reducible refine Rl.go (by constructor <;> decide) ?_
         | ((with_reducible first | refine hK _ ?_ | refine hK.1 ?_ | refine hK.2 ?_); clear hK K)
         | ((with_reducible refine condS hK (fun hg => ?_) fun hg => ?_) <;> clear hK K <;> (try simp only [hgW] at hg) <;> try (exfalso; omega))
         | ((first | ((with_reducible first | refine Rk.go k31_VsJVal3 (by constructor) ?_ | refine Rd.go 18 k31_VsJVal3 a31_18_VsJVal3 o31_18_VsJVal3 mixed (by constructor) (by kernel_rfl) (by kernel_rfl) ?_); intro K hK) | with_reducible refine Rr.go [] (by constructor) ?_ | (with_reducible refine guardP_split (fun hg => ?_) fun hg => ?_) <;> (try simp only [hg]) <;> (try simp only [hgW] at hg) | (with_reducible refine callE_B3 c32 ?_) | (with_reducible refine callE_B3 c45 ?_)) <;> simp -implicitDefEqProofs only [eqOk_true, RJ.cells, JN.av, n1, n2, n3, hd1, e1, e2, set_av0, set_emp, hn, go_sem, simprocAttr] <;> try (simp (disch := omega) only [wrW]; try simp -implicitDefEqProofs only [RJ.cells, JN.av, n1, n2, n3, hd1, e1, e2, set_av0, set_emp, hn, go_sem, simprocAttr]))
         | with_reducible refine And.intro (by first | omega | (simp only [hgW]; omega)) ?_
         | (exfalso; omega)
    rw [if_neg hc4] at hR hbm
    have n4 : ¬ (c.toNat : Int) = 45 := fun h => hc4 (.inl (UInt8.toNat_inj.1 (by simp; omega)))
    have n5 : ¬ (48 ≤ c.toNat ∧ c.toNat ≤ 57) := fun h => hc4 (.inr (by simp only [digit, Bool.and_eq_true, decide_eq_true_eq]; exact h))
    have c46 := f46_ok S2 nb (by have := hO2.len; omega) hO2.at_
    generalize wordS S2 = B at *
    obtain ⟨⟨xk, xt, xn, xs⟩, T⟩ := B
    simp only at hR hbm c46
    subst hR
    obtain ⟨b, at_, deep, nodes, err⟩ := s
    obtain ⟨Hb, Ha, Hd, Hn, He⟩ := H2
    obtain ⟨Sb, Sa, Sd, Sn, Se⟩ := S2
    obtain ⟨Tb, Ta, Td, Tn, Te⟩ := T
    simp only at he z1 z2 z3 z4 z5 e1 e2 hbm hn256 hdd
    subst he z1 z2 z3 z4 z5 hdd
    by_cases h48 : 48 ≤ c.toNat
    · refine CallsB.intro Tryd.func31 rfl (by show 1 ≤ 83; decide) ?_
      rintro X hX
      have hn : X.n = 83 := hX
      unfold Tryd.f31
      dsimp only
      rw [entryB11]
      repeat' first
       | with_reducible refine Rl.go (by constructor <;> decide) ?_
       | ((with_reducible first | refine hK _ ?_ | refine hK.1 ?_ | refine hK.2 ?_); clear hK K)
       | ((with_reducible refine condS hK (fun hg => ?_) fun hg => ?_) <;> clear hK K <;> (try simp only [hgW] at hg) <;> try (exfalso; omega))
       | ((first | ((with_reducible first | refine Rk.go k31_VsJVal3 (by constructor) ?_ | refine Rd.go 18 k31_VsJVal3 a31_18_VsJVal3 o31_18_VsJVal3 mixed (by constructor) (by kernel_rfl) (by kernel_rfl) ?_); intro K hK) | with_reducible refine Rr.go [] (by constructor) ?_ | (with_reducible refine guardP_split (fun hg => ?_) fun hg => ?_) <;> (try simp only [hg]) <;> (try simp only [hgW] at hg) | (with_reducible refine callE_B3 c32 ?_) | (with_reducible refine callE_B3 c46 ?_)) <;> simp -implicitDefEqProofs only [eqOk_true, RJ.cells, JN.av, n1, n2, n3, n4, e1, e2, set_av, set_emp, hn, go_sem, simprocAttr] <;> try (simp (disch := omega) only [wrW]; try simp -implicitDefEqProofs only [RJ.cells, JN.av, n1, n2, n3, n4, e1, e2, set_av, set_emp, hn, go_sem, simprocAttr]))
       | with_reducible refine And.intro (by first | omega | (simp only [hgW]; omega)) ?_
       | (exfalso; omega)
    · refine CallsB.intro Tryd.func31 rfl (by show 1 ≤ 83; decide) ?_
      rintro X hX
      have hn : X.n = 83 := hX
      unfold Tryd.f31
      dsimp only
      rw [entryB11]
      repeat' first
       | with_reducible refine Rl.go (by constructor <;> decide) ?_
       | ((with_reducible first | refine hK _ ?_ | refine hK.1 ?_ | refine hK.2 ?_); clear hK K)
       | ((with_reducible refine condS hK (fun hg => ?_) fun hg => ?_) <;> clear hK K <;> (try simp only [hgW] at hg) <;> try (exfalso; omega))
       | ((first | ((with_reducible first | refine Rk.go k31_VsJVal3 (by constructor) ?_ | refine Rd.go 18 k31_VsJVal3 a31_18_VsJVal3 o31_18_VsJVal3 mixed (by constructor) (by kernel_rfl) (by kernel_rfl) ?_); intro K hK) | with_reducible refine Rr.go [] (by constructor) ?_ | (with_reducible refine guardP_split (fun hg => ?_) fun hg => ?_) <;> (try simp only [hg]) <;> (try simp only [hgW] at hg) | (with_reducible refine callE_B3 c32 ?_) | (with_reducible refine callE_B3 c46 ?_)) <;> simp -implicitDefEqProofs only [eqOk_true, RJ.cells, JN.av, n1, n2, n3, n4, e1, e2, set_av, set_emp, hn, go_sem, simprocAttr] <;> try (simp (disch := omega) only [wrW]; try simp -implicitDefEqProofs only [RJ.cells, JN.av, n1, n2, n3, n4, e1, e2, set_av, set_emp, hn, go_sem, simprocAttr]))
       | with_reducible refine And.intro (by first | omega | (simp only [hgW]; omega)) ?_
       | (exfalso; omega)
  · rw [if_pos he] at hR
    subst hR
    obtain ⟨b, at_, deep, nodes, err⟩ := s
    obtain ⟨Hb, Ha, Hd, Hn, He⟩ := H2
    simp only at he
    refine CallsB.intro Tryd.func31 rfl (by show 1 ≤ 83; decide) ?_
    rintro X hX
    have hn : X.n = 83 := hX
    unfold Tryd.f31
    dsimp only
    rw [entryB11]
    repeat' first
     | with_reducible refine Rl.go (by constructor <;> decide) ?_
     | ((with_reducible first | refine hK _ ?_ | refine hK.1 ?_ | refine hK.2 ?_); clear hK K)
     | ((with_reducible refine condS hK (fun hg => ?_) fun hg => ?_) <;> clear hK K <;> (try simp only [hgW] at hg) <;> try (exfalso; omega))
     | ((first | ((with_reducible first | refine Rk.go k31_VsJVal3 (by constructor) ?_ | refine Rd.go 18 k31_VsJVal3 a31_18_VsJVal3 o31_18_VsJVal3 mixed (by constructor) (by kernel_rfl) (by kernel_rfl) ?_); intro K hK) | with_reducible refine Rr.go [] (by constructor) ?_ | (with_reducible refine guardP_split (fun hg => ?_) fun hg => ?_) <;> (try simp only [hg]) <;> (try simp only [hgW] at hg) | (with_reducible refine callE_B3 c32 ?_)) <;> simp -implicitDefEqProofs only [eqOk_true, RJ.cells, he, hn, go_sem, simprocAttr] <;> try (simp (disch := omega) only [wrW]; try simp -implicitDefEqProofs only [RJ.cells, he, hn, go_sem, simprocAttr]))
     | with_reducible refine And.intro (by first | omega | (simp only [hgW]; omega)) ?_
     | (exfalso; omega)
theorem valS_ok : ∀ d : Nat, d ≤ 8 → ∀ n, n + d = 9 → ValOk (valS n) d := by
  have go : ∀ n d : Nat, d ≤ 8 → n + d = 9 → ValOk (valS n) d := by
    intro n
    induction n with
    | zero => intro d h1 h2; omega
    | succ n ih =>
      intro d h1 h2
      obtain ⟨K, hm⟩ := valS_keep n
      exact f31_ok K hm d h1 fun h3 => ih (d + 1) h3 (by omega)
  exact fun d h1 n h2 => go n d h1 h2
theorem markDQ (id : Nat) {P : Program} {X : Ent} {ops : Array Oper} {d : Bool} {y : Code} {Q : Exit → St → Prop} {st : St} (h : MarkD (AWP P X (.seq (.region id ops d) y) Q st)) : AWP P X (.seq (.region id ops d) y) Q st := h
/-- Parse. -/
def parseS (b : List UInt8) : List JN × Nat :=
  if 4096 < b.length then ([], 3)
  else
    let v := (valS 9 ⟨b, 0, 0, [], 0⟩).2
    let h := hereS v
    let s := if h.1 ≠ 0 ∨ h.2.at_ < h.2.b.length then h.2.fail 11 else h.2
    if s.err ≠ 0 then ([], s.err) else (s.nodes, 0)
theorem share {P : Program} {f : FuncId} {args : List AV} {r : AV} (h : CallsP P f args r) (h1 : noE r = true) : CallsP P f args (frozT r) := by
  intro w Sh vals ht hs ha
  refine (h w Sh vals ht hs ha).mono ?_
  rintro e w' ⟨v, C', he, hr, m, hbx, hd⟩
  let C2 : Ctx := ⟨fun b => C'.Sh b ∨ ∃ g ∈ stA r, ∃ base, C'.own g = .live b base, fun g => if hasS (stA r) g = true then .none else C'.own g, C'.box, C'.fo⟩
  have o1 : ∀ g, hasS (stA r) g = false → C2.own g = C'.own g := fun g hg => by
    have e : C2.own g = (if hasS (stA r) g = true then Own.none else C'.own g) := rfl
    rw [e, if_neg (by simp [hg])]
  have o2 : ∀ g b base, C2.own g = .live b base → C'.own g = .live b base ∧ g ∉ stA r := fun g b base hg => by
    cases e : hasS (stA r) g with
    | false => rw [o1 g e] at hg; exact ⟨hg, fun hm => by rw [hasS_mem.2 hm] at e; cases e⟩
    | true =>
      have e2 : C2.own g = (if hasS (stA r) g = true then Own.none else C'.own g) := rfl
      rw [e2, if_pos e] at hg; cases hg
  refine ⟨v, C2, he, frozT_ok (C2 := C2) hd rfl (fun b hb => Or.inl hb) r v (fun g hg b base hb => Or.inr ⟨g, hg, base, hb⟩) h1 hr, ?_, hbx, ?_⟩
  · exact { shIn := fun b hb => hb.elim (m.shIn b) fun ⟨g, _, base, hg⟩ => m.ownIn g b base hg,
            shFrom := fun b hb => hb.elim (m.shFrom b) fun ⟨g, _, base, hg⟩ => .inr (m.ownMine g b base hg rfl),
            shOld := fun b hb => Or.inl (m.shOld b hb),
            ownIn := fun g b base hg => m.ownIn g b base (o2 g b base hg).1,
            ownOne := fun g g' b base base' hg hg' hf => m.ownOne g g' b base base' (o2 g b base hg).1 (o2 g' b base' hg').1 hf,
            ownBox := fun g b base id hg hf hbb => m.ownBox g b base id (o2 g b base hg).1 hf hbb,
            ownSh := fun g b base hg hf hsb => by
              obtain ⟨k1, k2⟩ := o2 g b base hg
              rcases hsb with hsb | ⟨g', hm, base', hg'⟩
              · exact m.ownSh g b base k1 hf hsb
              · exact k2 (by rw [m.ownOne g g' b base base' k1 hg' hf]; exact hm),
            ownFrz := fun g b base hg hf => (by cases hf),
            ownMine := fun g b base hg hf => m.ownMine g b base (o2 g b base hg).1 hf,
            boxIn := m.boxIn, boxOne := m.boxOne,
            boxSh := fun id b hbb hsb => by
              rcases hsb with hsb | ⟨g', hm, base', hg'⟩
              · exact m.boxSh id b hbb hsb
              · exact m.ownBox g' b base' id hg' rfl hbb,
            boxMine := m.boxMine, kept := m.kept, size := m.size, os := m.os, tape := m.tape, output := m.output, inB := m.inB }
  · intro g hg
    cases e : hasS (stA r) g with
    | false => rw [o1 g e] at hg; exact hd g hg
    | true =>
      have e2 : C2.own g = (if hasS (stA r) g = true then Own.none else C'.own g) := rfl
      rw [e2, if_pos e] at hg; cases hg
def nodesOwn (p : List JN × Nat) : AV := if p.2 = 0 then .sl (some ((3, 0), 0)) p.1.isEmpty 4 (p.1.map JN.av) else .sl none p.1.isEmpty 4 (p.1.map JN.av)
theorem nodesOwn_err {e : Nat} (h : e ≠ 0) : nodesOwn ([], e) = .sl none true 4 [] := if_neg h
theorem nodesOwn_ok (l : List JN) : nodesOwn (l, 0) = .sl (some ((3, 0), 0)) l.isEmpty 4 (l.map JN.av) := rfl
def k17_VsJVal3 : List Nat := [0,2,3,4,7,24,31]
def a17_8_VsJVal3 : List Nat := [0,1,3,7,0,31]
def o17_8_VsJVal3 : List Nat := [0,1,2,3,4,5]
attribute [go_sem] k17_VsJVal3 a17_8_VsJVal3 o17_8_VsJVal3
theorem f17_own (b : List UInt8) (nb : Bool) : CallsP Tryd.prog 17 [.sl none nb 1 (b.map u8)] (.tup [nodesOwn (parseS b), .int .i64 ((parseS b).2 : Int)]) := by
  obtain ⟨R, hR⟩ : ∃ R, parseS b = R := ⟨_, rfl⟩
  rw [hR]
  unfold parseS at hR
  by_cases hl : 4096 < b.length
  · rw [if_pos hl] at hR
    subst hR
    rw [nodesOwn_err (by decide)]
    refine CallsP.intro Tryd.func17 rfl (by show 1 ≤ 40; decide) ?_
    rintro X hX
    have hn : X.n = 40 := hX
    unfold Tryd.f17
    dsimp only
    rw [entry1]
    repeat' first
     | with_reducible refine Rl.go (by constructor <;> decide) ?_
     | ((with_reducible first | refine hK _ ?_ | refine hK.1 ?_ | refine hK.2 ?_); clear hK K)
     | ((with_reducible refine condS hK (fun hg => ?_) fun hg => ?_) <;> clear hK K <;> (try simp only [hgW] at hg) <;> try (exfalso; omega))
     | ((first | ((with_reducible first | refine Rk.go k17_VsJVal3 (by constructor) ?_ | refine Rd.go 8 k17_VsJVal3 a17_8_VsJVal3 o17_8_VsJVal3 mixed (by constructor) (by kernel_rfl) (by kernel_rfl) ?_); intro K hK) | with_reducible refine Rr.go [] (by constructor) ?_ | (with_reducible refine guardP_split (fun hg => ?_) fun hg => ?_) <;> (try simp only [hg]) <;> (try simp only [hgW] at hg)) <;> simp -implicitDefEqProofs only [hn, go_sem, simprocAttr] <;> try (simp (disch := omega) only [wrW]; try simp -implicitDefEqProofs only [hn, go_sem, simprocAttr]))
     | with_reducible refine And.intro (by first | omega | (simp only [hgW]; omega)) ?_
     | (exfalso; omega)
  rw [if_neg hl] at hR
  simp only at hR
  obtain ⟨K, hm⟩ := valS_keep 9
  have hO : OkJ ⟨b, 0, 0, [], 0⟩ := ⟨Nat.zero_le _, by simp only; omega, by simp⟩
  have c31 := valS_ok 0 (by omega) 9 rfl ⟨b, 0, 0, [], 0⟩ nb rfl hO
  have kk := keep_val K hm _ hO
  have hmore := K.more _ hO
  generalize valS 9 ⟨b, 0, 0, [], 0⟩ = V at *
  obtain ⟨v, V2⟩ := V
  simp only at c31 kk hR hmore
  have c32 := f32_ok V2 nb (by have := kk.ok.len; omega)
  have kh := keep_here V2 kk.ok
  obtain ⟨q1, q2, q3, q4⟩ := hereS_b V2
  generalize hereS V2 = H at *
  obtain ⟨c, H2⟩ := H
  simp only at c32 kh q1 q2 q3 q4 hR
  have hct := c.toNat_lt
  have hHb : H2.b = b := by rw [q1]; exact kk.b
  have hc0 : c = 0 ↔ (c.toNat : Int) = 0 := ⟨fun h => by rw [h]; rfl, fun h => UInt8.toNat_inj.1 (by simp; omega)⟩
  have c33 := f33_ok H2 nb 11
  by_cases hb : c ≠ 0 ∨ H2.at_ < H2.b.length
  · rw [if_pos hb] at hR
    obtain ⟨w1, w2, w3, w4, w5⟩ := fail_b H2 11
    generalize H2.fail 11 = F at *
    rw [if_pos (w5 (by decide))] at hR
    subst hR
    have w5' := w5 (by decide)
    rw [nodesOwn_err w5']
    obtain ⟨Vb, Va, Vd, Vn, Ve⟩ := V2
    obtain ⟨Hb, Ha, Hd, Hn, He⟩ := H2
    obtain ⟨Fb, Fa, Fd, Fn, Fe⟩ := F
    simp only at hHb w1 w2 w3 w4 w5' hb q1
    subst hHb
    by_cases hcz : c = 0
    · have hci := hc0.1 hcz
      have hlt := hb.resolve_left (by simpa using hcz)
      refine CallsP.intro Tryd.func17 rfl (by show 1 ≤ 40; decide) ?_
      rintro X hX
      have hn : X.n = 40 := hX
      unfold Tryd.f17
      dsimp only
      rw [entry1]
      repeat' first
       | (with_reducible refine markDQ 4 ?_)
       | with_reducible refine Rl.go (by constructor <;> decide) ?_
       | ((with_reducible first | refine hK _ ?_ | refine hK.1 ?_ | refine hK.2 ?_); clear hK K)
       | ((with_reducible refine condS hK (fun hg => ?_) fun hg => ?_) <;> clear hK K <;> (try simp only [hgW] at hg) <;> try (exfalso; omega))
       | ((first | ((with_reducible first | refine Rk.go k17_VsJVal3 (by constructor) ?_ | refine Rd.go 8 k17_VsJVal3 a17_8_VsJVal3 o17_8_VsJVal3 mixed (by constructor) (by kernel_rfl) (by kernel_rfl) ?_); intro K hK) | with_reducible refine Rr.go [] (by constructor) ?_ | (with_reducible refine guardP_split (fun hg => ?_) fun hg => ?_) <;> (try simp only [hg]) <;> (try simp only [hgW] at hg)) <;> simp -implicitDefEqProofs only [hn, go_sem, simprocAttr] <;> try (simp (disch := omega) only [wrW]; try simp -implicitDefEqProofs only [hn, go_sem, simprocAttr]))
       | with_reducible refine And.intro (by first | omega | (simp only [hgW]; omega)) ?_
       | (exfalso; omega)
      unfold MarkD
      refine AWP.adoptB 10 3 (0, 999) 0 4 (by rfl) (by rfl) ?_
      repeat' first
       | with_reducible refine Rl.go (by constructor <;> decide) ?_
       | ((with_reducible first | refine hK _ ?_ | refine hK.1 ?_ | refine hK.2 ?_); clear hK K)
       | ((with_reducible refine condS hK (fun hg => ?_) fun hg => ?_) <;> clear hK K <;> (try simp only [hgW] at hg) <;> try (exfalso; omega))
       | ((first | ((with_reducible first | refine Rk.go k17_VsJVal3 (by constructor) ?_ | refine Rd.go 8 k17_VsJVal3 a17_8_VsJVal3 o17_8_VsJVal3 mixed (by constructor) (by kernel_rfl) (by kernel_rfl) ?_); intro K hK) | with_reducible refine Rr.go [] (by constructor) ?_ | (with_reducible refine guardP_split (fun hg => ?_) fun hg => ?_) <;> (try simp only [hg]) <;> (try simp only [hgW] at hg) | (with_reducible refine callE_B3 c31 ?_) | (with_reducible refine callE_B3 c32 ?_) | (with_reducible refine callE_B3 c33 ?_)) <;> simp -implicitDefEqProofs only [eqOk_true, RJ.cells, hci, w5', hn, go_sem, simprocAttr] <;> try (simp (disch := omega) only [wrW]; try simp -implicitDefEqProofs only [RJ.cells, hci, w5', hn, go_sem, simprocAttr]))
       | with_reducible refine And.intro (by first | omega | (simp only [hgW]; omega)) ?_
       | (exfalso; omega)
    · have hci : ¬ (c.toNat : Int) = 0 := fun h => hcz (hc0.2 h)
      refine CallsP.intro Tryd.func17 rfl (by show 1 ≤ 40; decide) ?_
      rintro X hX
      have hn : X.n = 40 := hX
      unfold Tryd.f17
      dsimp only
      rw [entry1]
      repeat' first
       | (with_reducible refine markDQ 4 ?_)
       | with_reducible refine Rl.go (by constructor <;> decide) ?_
       | ((with_reducible first | refine hK _ ?_ | refine hK.1 ?_ | refine hK.2 ?_); clear hK K)
       | ((with_reducible refine condS hK (fun hg => ?_) fun hg => ?_) <;> clear hK K <;> (try simp only [hgW] at hg) <;> try (exfalso; omega))
       | ((first | ((with_reducible first | refine Rk.go k17_VsJVal3 (by constructor) ?_ | refine Rd.go 8 k17_VsJVal3 a17_8_VsJVal3 o17_8_VsJVal3 mixed (by constructor) (by kernel_rfl) (by kernel_rfl) ?_); intro K hK) | with_reducible refine Rr.go [] (by constructor) ?_ | (with_reducible refine guardP_split (fun hg => ?_) fun hg => ?_) <;> (try simp only [hg]) <;> (try simp only [hgW] at hg)) <;> simp -implicitDefEqProofs only [hn, go_sem, simprocAttr] <;> try (simp (disch := omega) only [wrW]; try simp -implicitDefEqProofs only [hn, go_sem, simprocAttr]))
       | with_reducible refine And.intro (by first | omega | (simp only [hgW]; omega)) ?_
       | (exfalso; omega)
      unfold MarkD
      refine AWP.adoptB 10 3 (0, 999) 0 4 (by rfl) (by rfl) ?_
      repeat' first
       | with_reducible refine Rl.go (by constructor <;> decide) ?_
       | ((with_reducible first | refine hK _ ?_ | refine hK.1 ?_ | refine hK.2 ?_); clear hK K)
       | ((with_reducible refine condS hK (fun hg => ?_) fun hg => ?_) <;> clear hK K <;> (try simp only [hgW] at hg) <;> try (exfalso; omega))
       | ((first | ((with_reducible first | refine Rk.go k17_VsJVal3 (by constructor) ?_ | refine Rd.go 8 k17_VsJVal3 a17_8_VsJVal3 o17_8_VsJVal3 mixed (by constructor) (by kernel_rfl) (by kernel_rfl) ?_); intro K hK) | with_reducible refine Rr.go [] (by constructor) ?_ | (with_reducible refine guardP_split (fun hg => ?_) fun hg => ?_) <;> (try simp only [hg]) <;> (try simp only [hgW] at hg) | (with_reducible refine callE_B3 c31 ?_) | (with_reducible refine callE_B3 c32 ?_) | (with_reducible refine callE_B3 c33 ?_)) <;> simp -implicitDefEqProofs only [eqOk_true, RJ.cells, hci, w5', hn, go_sem, simprocAttr] <;> try (simp (disch := omega) only [wrW]; try simp -implicitDefEqProofs only [RJ.cells, hci, w5', hn, go_sem, simprocAttr]))
       | with_reducible refine And.intro (by first | omega | (simp only [hgW]; omega)) ?_
       | (exfalso; omega)
  · rw [if_neg hb] at hR
    simp only [not_or, Nat.not_lt] at hb
    have hcz : c = 0 := Classical.not_not.1 hb.1
    have hci := hc0.1 hcz
    have hlt := hb.2
    by_cases he : H2.err = 0
    · rw [if_neg (by simpa using he)] at hR
      subst hR
      obtain ⟨Vb, Va, Vd, Vn, Ve⟩ := V2
      obtain ⟨Hb, Ha, Hd, Hn, He⟩ := H2
      simp only at hHb he hlt q1
      subst hHb he
      rw [nodesOwn_ok]
      refine CallsP.intro Tryd.func17 rfl (by show 1 ≤ 40; decide) ?_
      rintro X hX
      have hn : X.n = 40 := hX
      unfold Tryd.f17
      dsimp only
      rw [entry1]
      repeat' first
       | (with_reducible refine markDQ 4 ?_)
       | with_reducible refine Rl.go (by constructor <;> decide) ?_
       | ((with_reducible first | refine hK _ ?_ | refine hK.1 ?_ | refine hK.2 ?_); clear hK K)
       | ((with_reducible refine condS hK (fun hg => ?_) fun hg => ?_) <;> clear hK K <;> (try simp only [hgW] at hg) <;> try (exfalso; omega))
       | ((first | ((with_reducible first | refine Rk.go k17_VsJVal3 (by constructor) ?_ | refine Rd.go 8 k17_VsJVal3 a17_8_VsJVal3 o17_8_VsJVal3 mixed (by constructor) (by kernel_rfl) (by kernel_rfl) ?_); intro K hK) | with_reducible refine Rr.go [] (by constructor) ?_ | (with_reducible refine guardP_split (fun hg => ?_) fun hg => ?_) <;> (try simp only [hg]) <;> (try simp only [hgW] at hg)) <;> simp -implicitDefEqProofs only [hn, go_sem, simprocAttr] <;> try (simp (disch := omega) only [wrW]; try simp -implicitDefEqProofs only [hn, go_sem, simprocAttr]))
       | with_reducible refine And.intro (by first | omega | (simp only [hgW]; omega)) ?_
       | (exfalso; omega)
      unfold MarkD
      refine AWP.adoptB 10 3 (0, 999) 0 4 (by rfl) (by rfl) ?_
      repeat' first
       | with_reducible refine Rl.go (by constructor <;> decide) ?_
       | ((with_reducible first | refine hK _ ?_ | refine hK.1 ?_ | refine hK.2 ?_); clear hK K)
       | ((with_reducible refine condS hK (fun hg => ?_) fun hg => ?_) <;> clear hK K <;> (try simp only [hgW] at hg) <;> try (exfalso; omega))
       | ((first | ((with_reducible first | refine Rk.go k17_VsJVal3 (by constructor) ?_ | refine Rd.go 8 k17_VsJVal3 a17_8_VsJVal3 o17_8_VsJVal3 mixed (by constructor) (by kernel_rfl) (by kernel_rfl) ?_); intro K hK) | with_reducible refine Rr.go [] (by constructor) ?_ | (with_reducible refine guardP_split (fun hg => ?_) fun hg => ?_) <;> (try simp only [hg]) <;> (try simp only [hgW] at hg) | (with_reducible refine callE_B3 c31 ?_) | (with_reducible refine callE_B3 c32 ?_)) <;> simp -implicitDefEqProofs only [eqOk_true, RJ.cells, hci, hn, go_sem, simprocAttr] <;> try (simp (disch := omega) only [wrW]; try simp -implicitDefEqProofs only [RJ.cells, hci, hn, go_sem, simprocAttr]))
       | with_reducible refine And.intro (by first | omega | (simp only [hgW]; omega)) ?_
       | (exfalso; omega)
    · rw [if_pos he] at hR
      subst hR
      obtain ⟨Vb, Va, Vd, Vn, Ve⟩ := V2
      obtain ⟨Hb, Ha, Hd, Hn, He⟩ := H2
      simp only at hHb he hlt q1
      subst hHb
      rw [nodesOwn_err he]
      refine CallsP.intro Tryd.func17 rfl (by show 1 ≤ 40; decide) ?_
      rintro X hX
      have hn : X.n = 40 := hX
      unfold Tryd.f17
      dsimp only
      rw [entry1]
      repeat' first
       | (with_reducible refine markDQ 4 ?_)
       | with_reducible refine Rl.go (by constructor <;> decide) ?_
       | ((with_reducible first | refine hK _ ?_ | refine hK.1 ?_ | refine hK.2 ?_); clear hK K)
       | ((with_reducible refine condS hK (fun hg => ?_) fun hg => ?_) <;> clear hK K <;> (try simp only [hgW] at hg) <;> try (exfalso; omega))
       | ((first | ((with_reducible first | refine Rk.go k17_VsJVal3 (by constructor) ?_ | refine Rd.go 8 k17_VsJVal3 a17_8_VsJVal3 o17_8_VsJVal3 mixed (by constructor) (by kernel_rfl) (by kernel_rfl) ?_); intro K hK) | with_reducible refine Rr.go [] (by constructor) ?_ | (with_reducible refine guardP_split (fun hg => ?_) fun hg => ?_) <;> (try simp only [hg]) <;> (try simp only [hgW] at hg)) <;> simp -implicitDefEqProofs only [hn, go_sem, simprocAttr] <;> try (simp (disch := omega) only [wrW]; try simp -implicitDefEqProofs only [hn, go_sem, simprocAttr]))
       | with_reducible refine And.intro (by first | omega | (simp only [hgW]; omega)) ?_
       | (exfalso; omega)
      unfold MarkD
      refine AWP.adoptB 10 3 (0, 999) 0 4 (by rfl) (by rfl) ?_
      repeat' first
       | with_reducible refine Rl.go (by constructor <;> decide) ?_
       | ((with_reducible first | refine hK _ ?_ | refine hK.1 ?_ | refine hK.2 ?_); clear hK K)
       | ((with_reducible refine condS hK (fun hg => ?_) fun hg => ?_) <;> clear hK K <;> (try simp only [hgW] at hg) <;> try (exfalso; omega))
       | ((first | ((with_reducible first | refine Rk.go k17_VsJVal3 (by constructor) ?_ | refine Rd.go 8 k17_VsJVal3 a17_8_VsJVal3 o17_8_VsJVal3 mixed (by constructor) (by kernel_rfl) (by kernel_rfl) ?_); intro K hK) | with_reducible refine Rr.go [] (by constructor) ?_ | (with_reducible refine guardP_split (fun hg => ?_) fun hg => ?_) <;> (try simp only [hg]) <;> (try simp only [hgW] at hg) | (with_reducible refine callE_B3 c31 ?_) | (with_reducible refine callE_B3 c32 ?_)) <;> simp -implicitDefEqProofs only [eqOk_true, RJ.cells, hci, he, hn, go_sem, simprocAttr] <;> try (simp (disch := omega) only [wrW]; try simp -implicitDefEqProofs only [RJ.cells, hci, he, hn, go_sem, simprocAttr]))
       | with_reducible refine And.intro (by first | omega | (simp only [hgW]; omega)) ?_
       | (exfalso; omega)
theorem f17_ok (b : List UInt8) (nb : Bool) : CallsP Tryd.prog 17 [.sl none nb 1 (b.map u8)] (.tup [.sl none (parseS b).1.isEmpty 4 ((parseS b).1.map JN.av), .int .i64 ((parseS b).2 : Int)]) := by
  have h := f17_own b nb
  unfold nodesOwn at h
  split at h
  · exact share h (by rfl)
  · exact h
end Go.Proofs.YtfemncfhiihckaaDoor
