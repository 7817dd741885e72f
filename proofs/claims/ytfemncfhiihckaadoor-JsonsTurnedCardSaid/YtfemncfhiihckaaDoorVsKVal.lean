/- What the document's values come to. -/
import Derived.Test.YtfemncfhiihckaaDoorVsKGrp
import Derived.Test.YtfemncfhiihckaaDoorVsJVal3
open Go Go.VS
namespace Go.Proofs.YtfemncfhiihckaaDoor
set_option linter.unusedVariables false
set_option linter.unusedSimpArgs false
set_option maxRecDepth 20000
set_option maxHeartbeats 4000000
theorem word_false {s : RJ} {w : List UInt8} (h : (wordC s w).1 = false) : (wordC s w).2 = s := by
  unfold wordC wordP at h ⊢
  simp only at h ⊢
  split
  · rename_i e; rw [if_pos e] at h; cases h
  · rfl
def bodyR (val : RJ → Nat × RJ) (s : RJ) : (JN × Bool) × RJ :=
  if (isC s 123 || isC s 91) = true then (((groupS val s).1, true), (groupS val s).2)
  else if isC s 34 = true then ((⟨3, (textC s).1.1, [], []⟩, (textC s).1.2), (textC s).2)
  else if (wordC s trueB).1 = true then ((⟨5, [], [], []⟩, true), (wordC s trueB).2)
  else if (wordC s falseB).1 = true then ((⟨6, [], [], []⟩, true), (wordC s falseB).2)
  else if (wordC s nullB).1 = true then ((⟨7, [], [], []⟩, true), (wordC s nullB).2)
  else ((⟨4, (numberC s).1.1, [], []⟩, (numberC s).1.2), (numberC s).2)
def endR (B : (JN × Bool) × RJ) : RJ := if B.1.2 = true then B.2 else B.2.fail 11
def valueR (val : RJ → Nat × RJ) (s : RJ) : Nat × RJ :=
  if (blankS s).nodes.length = 256 then (0, (blankS s).fail 14)
  else ((blankS s).nodes.length,
    { endR (bodyR val { blankS s with nodes := (blankS s).nodes ++ [zeroJ] }) with
      nodes := (endR (bodyR val { blankS s with nodes := (blankS s).nodes ++ [zeroJ] })).nodes.set (blankS s).nodes.length (bodyR val { blankS s with nodes := (blankS s).nodes ++ [zeroJ] }).1.1 })
theorem keep_grp {val : RJ → Nat × RJ} (K : KeepV val) (hm : ∀ s, OkJ s → s.nodes.length ≤ (val s).2.nodes.length) (obj : Bool) (shut : UInt8) : ∀ (n : Nat) (s : RJ) (ns : List (List UInt8)) (ks : List Nat), OkJ s → KeepB s (grpL val obj shut n s ns ks).2
  | 0, s, ns, ks, h => ⟨rfl, rfl, h, Nat.le_refl _⟩
  | n + 1, s, ns, ks, h => by
    unfold grpL
    split
    · exact ⟨rfl, rfl, h, Nat.le_refl _⟩
    have k1 : KeepB s (if obj = true then nameS s ns else (s, ns)).1 := by
      split
      · exact (name_keep s ns h).1
      · exact ⟨rfl, rfl, h, Nat.le_refl _⟩
    simp only
    generalize (if obj = true then nameS s ns else (s, ns)) = M at *
    split
    · exact k1
    have k2 := k1.trans (keep_val K hm M.1 k1.ok)
    split
    · exact k2
    have k3 := k2.trans (blank_keep _ k2.ok)
    split
    · rename_i hc
      exact k3.trans (at_keep _ k3.ok (isC_lt hc).1)
    have k4 := k3.trans (word_keepC _ [44] k3.ok)
    have k5 : KeepB s (if (wordC (blankS (val M.1).2) [44]).1 = true then (wordC (blankS (val M.1).2) [44]).2 else (wordC (blankS (val M.1).2) [44]).2.fail 11) := by
      split
      · exact k4
      · exact k4.trans (keep_fail _ 11 k4.ok)
    exact k5.trans (keep_grp K hm obj shut n _ _ _ k5.ok)
theorem keep_group {val : RJ → Nat × RJ} (K : KeepV val) (hm : ∀ s, OkJ s → s.nodes.length ≤ (val s).2.nodes.length) (s : RJ) (h : OkJ s) (hat : s.at_ < s.b.length) : KeepB s (groupS val s).2 := by
  unfold groupS
  split
  · exact keep_fail s 13 h
  have k1 : OkJ { s with deep := s.deep + 1, at_ := s.at_ + 1 } := ⟨hat, h.len, h.nod⟩
  have kB : KeepB { s with deep := s.deep + 1, at_ := s.at_ + 1 } (groupB s) := blank_keep _ k1
  split
  · rename_i hc
    have k3 := kB.trans (at_keep _ kB.ok (isC_lt hc).1)
    exact ⟨k3.b, by show (groupB s).deep - 1 = s.deep; rw [kB.deep]; rfl, ⟨k3.ok.at_, k3.ok.len, k3.ok.nod⟩, k3.more⟩
  · have k3 := kB.trans (keep_grp K hm (isC s 123) (shutC s) 300 (groupB s) [] [] kB.ok)
    refine ⟨k3.b, ?_, ⟨k3.ok.at_, k3.ok.len, k3.ok.nod⟩, k3.more⟩
    show (grpL val (isC s 123) (shutC s) 300 (groupB s) [] []).2.deep - 1 = s.deep
    rw [k3.deep]; rfl
theorem keep_numC (s : RJ) (h : OkJ s) : KeepB s (numberC s).2 := keep_at s _ (numP_le s.b s.at_ h.at_).2 h
theorem keep_bodyR {val : RJ → Nat × RJ} (K : KeepV val) (hm : ∀ s, OkJ s → s.nodes.length ≤ (val s).2.nodes.length) (s : RJ) (h : OkJ s) : KeepB s (bodyR val s).2 := by
  unfold bodyR
  split
  · rename_i hc
    rw [Bool.or_eq_true] at hc
    exact keep_group K hm s h (by rcases hc with h | h <;> exact (isC_lt h).1)
  split
  · rename_i hc; exact text_keepC s h (isC_lt hc).1
  split
  · exact word_keepC s _ h
  split
  · exact word_keepC s _ h
  split
  · exact word_keepC s _ h
  · exact keep_numC s h
theorem keep_endR {s : RJ} {B : (JN × Bool) × RJ} (h : KeepB s B.2) : KeepB s (endR B) := by
  unfold endR
  split
  · exact h
  · exact h.trans (keep_fail _ 11 h.ok)
theorem valueR_keep {val : RJ → Nat × RJ} (K : KeepV val) (hm : ∀ s, OkJ s → s.nodes.length ≤ (val s).2.nodes.length) (s : RJ) (h : OkJ s) :
    KeepB s (valueR val s).2 ∧ ((valueR val s).2.err = 0 → s.nodes.length + 1 ≤ (valueR val s).2.nodes.length) ∧ (valueR val s).1 ≤ 256 := by
  have k0 := blank_keep s h
  unfold valueR
  split
  · exact ⟨k0.trans (keep_fail _ 14 k0.ok), fun e => ((fail_b (blankS s) 14).2.2.2.2 (by decide) e).elim, Nat.zero_le _⟩
  · rename_i hn
    have hnn : (blankS s).nodes.length < 256 := Nat.lt_of_le_of_ne k0.ok.nod hn
    have hok : OkJ { blankS s with nodes := (blankS s).nodes ++ [zeroJ] } := ⟨k0.ok.at_, k0.ok.len, by simp only [List.length_append, List.length_cons, List.length_nil]; omega⟩
    have kb := keep_endR (keep_bodyR K hm _ hok)
    generalize bodyR val { blankS s with nodes := (blankS s).nodes ++ [zeroJ] } = B at *
    have hmore := kb.more
    simp only [List.length_append, List.length_cons, List.length_nil] at hmore
    have := k0.more
    refine ⟨⟨kb.b.trans k0.b, kb.deep.trans k0.deep, ⟨kb.ok.at_, kb.ok.len, by simp only [List.length_set]; exact kb.ok.nod⟩, by simp only [List.length_set]; omega⟩, fun _ => by simp only [List.length_set]; omega, by simp only; omega⟩
def valR : Nat → RJ → Nat × RJ
  | 0, s => (0, s.fail 13)
  | n + 1, s => valueR (valR n) s
theorem valR_keep : ∀ n : Nat, KeepV (valR n) ∧ ∀ s, OkJ s → s.nodes.length ≤ (valR n s).2.nodes.length
  | 0 => valS_keep 0
  | n + 1 => by
    obtain ⟨K, hm⟩ := valR_keep n
    have k := fun s (h : OkJ s) => valueR_keep K hm s h
    exact ⟨⟨fun s h => (k s h).1.b, fun s h => (k s h).1.deep, fun s h => (k s h).1.ok, fun s h => (k s h).2.1, fun s h => (k s h).2.2⟩, fun s h => (k s h).1.more⟩
def k39_VsKVal : List Nat := [0,2,3,4,5,13,20,44,53,63,67,71,76]
def a39_25_VsKVal : List Nat := [0,1,3,7,0,0,63,127]
def o39_25_VsKVal : List Nat := [0,1,2,3,4,5,6,7]
attribute [go_sem] k39_VsKVal a39_25_VsKVal o39_25_VsKVal
theorem f39_ok {val : RJ → Nat × RJ} (K : KeepV val) (hm : ∀ s, OkJ s → s.nodes.length ≤ (val s).2.nodes.length) (d : Nat) (hd8 : d ≤ 8) (hit : d + 1 ≤ 8 → ValRk val (d + 1)) : ValRk (valueR val) d := by
  intro s nb hsd hok he
  have c40 := f40_ok s nb hok
  have k0 := blank_keep s hok
  have he0 : (blankS s).err = 0 := he
  obtain ⟨R, hR⟩ : ∃ R, valueR val s = R := ⟨_, rfl⟩
  rw [hR]
  unfold valueR at hR
  generalize blankS s = S0 at *
  by_cases h256 : S0.nodes.length = 256
  · rw [if_pos h256] at hR
    have c41 := f41_ok S0 nb 14
    have w5 := (fail_b S0 14).2.2.2.2 (by decide)
    subst hR
    generalize S0.fail 14 = F at *
    obtain ⟨b, at_, deep, nodes, err⟩ := s
    obtain ⟨b0, at0, deep0, nodes0, err0⟩ := S0
    obtain ⟨Fb, Fa, Fd, Fn, Fe⟩ := F
    simp only at he he0 w5 h256
    subst he he0
    refine CallsB.intro Tryd.func39 rfl (by show 1 ≤ 87; decide) ?_
    rintro X hX
    have hn : X.n = 87 := hX
    unfold Tryd.f39
    dsimp only
    rw [entryB11]
    repeat' first
     | with_reducible refine Rl.go (by constructor <;> decide) ?_
     | ((with_reducible first | refine hK _ ?_ | refine hK.1 ?_ | refine hK.2 ?_); clear hK K)
     | ((with_reducible refine condS hK (fun hg => ?_) fun hg => ?_) <;> clear hK K <;> (try simp only [hgW] at hg) <;> try (exfalso; omega))
     | ((first | ((with_reducible first | refine Rk.go k39_VsKVal (by constructor) ?_ | refine Rd.go 25 k39_VsKVal a39_25_VsKVal o39_25_VsKVal mixed (by constructor) (by kernel_rfl) (by kernel_rfl) ?_); intro K hK) | with_reducible refine Rr.go [] (by constructor) ?_ | (with_reducible refine guardP_split (fun hg => ?_) fun hg => ?_) <;> (try simp only [hg]) <;> (try simp only [hgW] at hg) | (with_reducible refine callE_B3 c40 ?_) | (with_reducible refine callE_B3 c41 ?_)) <;> simp -implicitDefEqProofs only [eqOk_true, RJ.cells, w5, h256, hn, go_sem, simprocAttr] <;> try (simp (disch := omega) only [wrW]; try simp -implicitDefEqProofs only [RJ.cells, w5, h256, hn, go_sem, simprocAttr]))
     | with_reducible refine And.intro (by first | omega | (simp only [hgW]; omega)) ?_
     | (exfalso; omega)
  rw [if_neg h256] at hR
  have hn256 : S0.nodes.length < 256 := Nat.lt_of_le_of_ne k0.ok.nod h256
  have hO2 : OkJ { S0 with nodes := S0.nodes ++ [zeroJ] } := ⟨k0.ok.at_, k0.ok.len, by simp only [List.length_append, List.length_cons, List.length_nil]; omega⟩
  have kb := keep_bodyR K hm _ hO2
  have e1 : S0.nodes.map JN.av ++ [AV.agg [.int .u8 0, .str [], .sl none true 1 [], .sl none true 1 []]] = (S0.nodes ++ [zeroJ]).map JN.av := by rw [List.map_append]; rfl
  have e2 : (S0.nodes ++ [zeroJ]).isEmpty = false := by simp
  have hni : ¬ (S0.nodes.length : Int) = 256 := by omega
  obtain ⟨S2, hS2⟩ : ∃ S2, ({ S0 with nodes := S0.nodes ++ [zeroJ] } : RJ) = S2 := ⟨_, rfl⟩
  have z1 : S2.b = S0.b := by rw [← hS2]
  have z2 : S2.at_ = S0.at_ := by rw [← hS2]
  have z3 : S2.deep = d := by rw [← hS2]; exact k0.deep.trans hsd
  have z3' : S0.deep = d := k0.deep.trans hsd
  have z4 : S2.nodes = S0.nodes ++ [zeroJ] := by rw [← hS2]
  have z5 : S2.err = 0 := by rw [← hS2]; exact he0
  rw [hS2] at kb hO2 hR
  have c51a := f51_ok S2 nb hO2 123
  have c51b := f51_ok S2 nb hO2 91
  have c51c := f51_ok S2 nb hO2 34
  have c54a := f54_ok S2 nb hO2 trueB (by decide)
  have c54b := f54_ok S2 nb hO2 falseB (by decide)
  have c54c := f54_ok S2 nb hO2 nullB (by decide)
  have w54a := word_false (s := S2) (w := trueB)
  have w54b := word_false (s := S2) (w := falseB)
  have w54c := word_false (s := S2) (w := nullB)
  have hmr := kb.more
  unfold bodyR at hR hmr
  by_cases hg : (isC S2 123 || isC S2 91) = true
  · rw [if_pos hg] at hR hmr
    have hg' : isC S2 123 = true ∨ isC S2 91 = true := by rwa [Bool.or_eq_true] at hg
    have c52 := f52_ok K hm S2 nb (by rw [z3]; exact hit) hO2 z5 hg' (by omega)
    unfold endR at hR
    simp only [if_true] at hR
    generalize groupS val S2 = B at *
    obtain ⟨⟨xk, xt, xn, xs⟩, T⟩ := B
    simp only at hR hmr c52
    subst hR
    generalize isC S2 123 = q1 at *
    generalize isC S2 91 = q2 at *
    obtain ⟨b, at_, deep, nodes, err⟩ := s
    obtain ⟨b0, at0, deep0, nodes0, err0⟩ := S0
    obtain ⟨Sb, Sa, Sd, Sn, Se⟩ := S2
    obtain ⟨Tb, Ta, Td, Tn, Te⟩ := T
    simp only at he he0 z1 z2 z3 z3' z4 z5 e1 e2 hmr hn256 hni
    subst he he0 z1 z2 z3 z3' z4 z5
    simp only [List.length_append, List.length_cons, List.length_nil] at hmr
    rcases hg' with rfl | rfl
    · refine CallsB.intro Tryd.func39 rfl (by show 1 ≤ 87; decide) ?_
      rintro X hX
      have hn : X.n = 87 := hX
      unfold Tryd.f39
      dsimp only
      rw [entryB11]
      repeat' first
       | with_reducible refine Rl.go (by constructor <;> decide) ?_
       | ((with_reducible first | refine hK _ ?_ | refine hK.1 ?_ | refine hK.2 ?_); clear hK K)
       | ((with_reducible refine condS hK (fun hg => ?_) fun hg => ?_) <;> clear hK K <;> (try simp only [hgW] at hg) <;> try (exfalso; omega))
       | ((first | ((with_reducible first | refine Rk.go k39_VsKVal (by constructor) ?_ | refine Rd.go 25 k39_VsKVal a39_25_VsKVal o39_25_VsKVal mixed (by constructor) (by kernel_rfl) (by kernel_rfl) ?_); intro K hK) | with_reducible refine Rr.go [] (by constructor) ?_ | (with_reducible refine guardP_split (fun hg => ?_) fun hg => ?_) <;> (try simp only [hg]) <;> (try simp only [hgW] at hg) | (with_reducible refine callE_B3 c40 ?_) | (with_reducible refine callE_B3 c51a ?_) | (with_reducible refine callE_B3 c52 ?_)) <;> simp -implicitDefEqProofs only [eqOk_true, RJ.cells, JN.av, hni, e1, e2, set_av, set_emp, hn, go_sem, simprocAttr] <;> try (simp (disch := omega) only [wrW]; try simp -implicitDefEqProofs only [RJ.cells, JN.av, hni, e1, e2, set_av, set_emp, hn, go_sem, simprocAttr]))
       | with_reducible refine And.intro (by first | omega | (simp only [hgW]; omega)) ?_
       | (exfalso; omega)
    · cases q1 with
      | true =>
        refine CallsB.intro Tryd.func39 rfl (by show 1 ≤ 87; decide) ?_
        rintro X hX
        have hn : X.n = 87 := hX
        unfold Tryd.f39
        dsimp only
        rw [entryB11]
        repeat' first
         | with_reducible refine Rl.go (by constructor <;> decide) ?_
         | ((with_reducible first | refine hK _ ?_ | refine hK.1 ?_ | refine hK.2 ?_); clear hK K)
         | ((with_reducible refine condS hK (fun hg => ?_) fun hg => ?_) <;> clear hK K <;> (try simp only [hgW] at hg) <;> try (exfalso; omega))
         | ((first | ((with_reducible first | refine Rk.go k39_VsKVal (by constructor) ?_ | refine Rd.go 25 k39_VsKVal a39_25_VsKVal o39_25_VsKVal mixed (by constructor) (by kernel_rfl) (by kernel_rfl) ?_); intro K hK) | with_reducible refine Rr.go [] (by constructor) ?_ | (with_reducible refine guardP_split (fun hg => ?_) fun hg => ?_) <;> (try simp only [hg]) <;> (try simp only [hgW] at hg) | (with_reducible refine callE_B3 c40 ?_) | (with_reducible refine callE_B3 c51a ?_) | (with_reducible refine callE_B3 c52 ?_)) <;> simp -implicitDefEqProofs only [eqOk_true, RJ.cells, JN.av, hni, e1, e2, set_av, set_emp, hn, go_sem, simprocAttr] <;> try (simp (disch := omega) only [wrW]; try simp -implicitDefEqProofs only [RJ.cells, JN.av, hni, e1, e2, set_av, set_emp, hn, go_sem, simprocAttr]))
         | with_reducible refine And.intro (by first | omega | (simp only [hgW]; omega)) ?_
         | (exfalso; omega)
      | false =>
        refine CallsB.intro Tryd.func39 rfl (by show 1 ≤ 87; decide) ?_
        rintro X hX
        have hn : X.n = 87 := hX
        unfold Tryd.f39
        dsimp only
        rw [entryB11]
        repeat' first
         | with_reducible refine Rl.go (by constructor <;> decide) ?_
         | ((with_reducible first | refine hK _ ?_ | refine hK.1 ?_ | refine hK.2 ?_); clear hK K)
         | ((with_reducible refine condS hK (fun hg => ?_) fun hg => ?_) <;> clear hK K <;> (try simp only [hgW] at hg) <;> try (exfalso; omega))
         | ((with_reducible refine callE_B3 c51a ?_); simp -implicitDefEqProofs only [eqOk_true, RJ.cells, JN.av, hni, e1, e2, set_av, set_emp, hn, go_sem, simprocAttr]; (skip; try (simp (disch := omega) only [wrW]; try simp -implicitDefEqProofs only [RJ.cells, JN.av, hni, e1, e2, set_av, set_emp, hn, go_sem, simprocAttr])); fail_if_success (with_reducible refine eqOk_mk ?_))
         | ((with_reducible refine callE_B3 c51b ?_); simp -implicitDefEqProofs only [eqOk_true, RJ.cells, JN.av, hni, e1, e2, set_av, set_emp, hn, go_sem, simprocAttr]; (skip; try (simp (disch := omega) only [wrW]; try simp -implicitDefEqProofs only [RJ.cells, JN.av, hni, e1, e2, set_av, set_emp, hn, go_sem, simprocAttr])); fail_if_success (with_reducible refine eqOk_mk ?_))
         | ((first | ((with_reducible first | refine Rk.go k39_VsKVal (by constructor) ?_ | refine Rd.go 25 k39_VsKVal a39_25_VsKVal o39_25_VsKVal mixed (by constructor) (by kernel_rfl) (by kernel_rfl) ?_); intro K hK) | with_reducible refine Rr.go [] (by constructor) ?_ | (with_reducible refine guardP_split (fun hg => ?_) fun hg => ?_) <;> (try simp only [hg]) <;> (try simp only [hgW] at hg) | (with_reducible refine callE_B3 c40 ?_) | (with_reducible refine callE_B3 c52 ?_)) <;> simp -implicitDefEqProofs only [eqOk_true, RJ.cells, JN.av, hni, e1, e2, set_av, set_emp, hn, go_sem, simprocAttr] <;> try (simp (disch := omega) only [wrW]; try simp -implicitDefEqProofs only [RJ.cells, JN.av, hni, e1, e2, set_av, set_emp, hn, go_sem, simprocAttr]))
         | with_reducible refine And.intro (by first | omega | (simp only [hgW]; omega)) ?_
         | (exfalso; omega)
  rw [if_neg hg] at hR hmr
  have hg1 : isC S2 123 = false ∧ isC S2 91 = false := by
    rw [Bool.not_eq_true, Bool.or_eq_false_iff] at hg; exact hg
  rw [hg1.1] at c51a
  rw [hg1.2] at c51b
  clear hg
  by_cases h34 : isC S2 34 = true
  · rw [if_pos h34] at hR hmr
    rw [h34] at c51c
    have c53 := f53_ok S2 nb hO2 (isC_lt h34).1
    generalize textC S2 = B at *
    obtain ⟨⟨xt, ok⟩, T⟩ := B
    simp only at hR hmr c53
    unfold endR at hR
    simp only at hR
    have c41 := f41_ok T nb 11
    have hFn := (fail_b T 11).2.2.1
    cases ok with
    | true =>
      simp only [if_true] at hR
      subst hR
      obtain ⟨b, at_, deep, nodes, err⟩ := s
      obtain ⟨b0, at0, deep0, nodes0, err0⟩ := S0
      obtain ⟨Sb, Sa, Sd, Sn, Se⟩ := S2
      obtain ⟨Tb, Ta, Td, Tn, Te⟩ := T
      simp only at he he0 z1 z2 z3 z3' z4 z5 e1 e2 hmr hn256 hni
      subst he he0 z1 z2 z3 z3' z4 z5
      simp only [List.length_append, List.length_cons, List.length_nil] at hmr
      refine CallsB.intro Tryd.func39 rfl (by show 1 ≤ 87; decide) ?_
      rintro X hX
      have hn : X.n = 87 := hX
      unfold Tryd.f39
      dsimp only
      rw [entryB11]
      repeat' first
       | with_reducible refine Rl.go (by constructor <;> decide) ?_
       | ((with_reducible first | refine hK _ ?_ | refine hK.1 ?_ | refine hK.2 ?_); clear hK K)
       | ((with_reducible refine condS hK (fun hg => ?_) fun hg => ?_) <;> clear hK K <;> (try simp only [hgW] at hg) <;> try (exfalso; omega))
       | ((with_reducible refine callE_B3 c51a ?_); simp -implicitDefEqProofs only [eqOk_true, RJ.cells, JN.av, hni, e1, e2, set_av0, set_emp, hn, go_sem, simprocAttr]; (skip; try (simp (disch := omega) only [wrW]; try simp -implicitDefEqProofs only [RJ.cells, JN.av, hni, e1, e2, set_av0, set_emp, hn, go_sem, simprocAttr])); fail_if_success (with_reducible refine eqOk_mk ?_))
       | ((with_reducible refine callE_B3 c51b ?_); simp -implicitDefEqProofs only [eqOk_true, RJ.cells, JN.av, hni, e1, e2, set_av0, set_emp, hn, go_sem, simprocAttr]; (skip; try (simp (disch := omega) only [wrW]; try simp -implicitDefEqProofs only [RJ.cells, JN.av, hni, e1, e2, set_av0, set_emp, hn, go_sem, simprocAttr])); fail_if_success (with_reducible refine eqOk_mk ?_))
       | ((with_reducible refine callE_B3 c51c ?_); simp -implicitDefEqProofs only [eqOk_true, RJ.cells, JN.av, hni, e1, e2, set_av0, set_emp, hn, go_sem, simprocAttr]; (skip; try (simp (disch := omega) only [wrW]; try simp -implicitDefEqProofs only [RJ.cells, JN.av, hni, e1, e2, set_av0, set_emp, hn, go_sem, simprocAttr])); fail_if_success (with_reducible refine eqOk_mk ?_))
       | ((first | ((with_reducible first | refine Rk.go k39_VsKVal (by constructor) ?_ | refine Rd.go 25 k39_VsKVal a39_25_VsKVal o39_25_VsKVal mixed (by constructor) (by kernel_rfl) (by kernel_rfl) ?_); intro K hK) | with_reducible refine Rr.go [] (by constructor) ?_ | (with_reducible refine guardP_split (fun hg => ?_) fun hg => ?_) <;> (try simp only [hg]) <;> (try simp only [hgW] at hg) | (with_reducible refine callE_B3 c40 ?_) | (with_reducible refine callE_B3 c53 ?_)) <;> simp -implicitDefEqProofs only [eqOk_true, RJ.cells, JN.av, hni, e1, e2, set_av0, set_emp, hn, go_sem, simprocAttr] <;> try (simp (disch := omega) only [wrW]; try simp -implicitDefEqProofs only [RJ.cells, JN.av, hni, e1, e2, set_av0, set_emp, hn, go_sem, simprocAttr]))
       | with_reducible refine And.intro (by first | omega | (simp only [hgW]; omega)) ?_
       | (exfalso; omega)
    | false =>
      simp only [Bool.false_eq_true, if_false] at hR
      generalize T.fail 11 = F at *
      subst hR
      obtain ⟨b, at_, deep, nodes, err⟩ := s
      obtain ⟨b0, at0, deep0, nodes0, err0⟩ := S0
      obtain ⟨Sb, Sa, Sd, Sn, Se⟩ := S2
      obtain ⟨Tb, Ta, Td, Tn, Te⟩ := T
      obtain ⟨Fb, Fa, Fd, Fn, Fe⟩ := F
      simp only at he he0 z1 z2 z3 z3' z4 z5 e1 e2 hmr hn256 hni hFn
      subst he he0 z1 z2 z3 z3' z4 z5 hFn
      simp only [List.length_append, List.length_cons, List.length_nil] at hmr
      refine CallsB.intro Tryd.func39 rfl (by show 1 ≤ 87; decide) ?_
      rintro X hX
      have hn : X.n = 87 := hX
      unfold Tryd.f39
      dsimp only
      rw [entryB11]
      repeat' first
       | with_reducible refine Rl.go (by constructor <;> decide) ?_
       | ((with_reducible first | refine hK _ ?_ | refine hK.1 ?_ | refine hK.2 ?_); clear hK K)
       | ((with_reducible refine condS hK (fun hg => ?_) fun hg => ?_) <;> clear hK K <;> (try simp only [hgW] at hg) <;> try (exfalso; omega))
       | ((with_reducible refine callE_B3 c51a ?_); simp -implicitDefEqProofs only [eqOk_true, RJ.cells, JN.av, hni, e1, e2, set_av0, set_emp, hn, go_sem, simprocAttr]; (skip; try (simp (disch := omega) only [wrW]; try simp -implicitDefEqProofs only [RJ.cells, JN.av, hni, e1, e2, set_av0, set_emp, hn, go_sem, simprocAttr])); fail_if_success (with_reducible refine eqOk_mk ?_))
       | ((with_reducible refine callE_B3 c51b ?_); simp -implicitDefEqProofs only [eqOk_true, RJ.cells, JN.av, hni, e1, e2, set_av0, set_emp, hn, go_sem, simprocAttr]; (skip; try (simp (disch := omega) only [wrW]; try simp -implicitDefEqProofs only [RJ.cells, JN.av, hni, e1, e2, set_av0, set_emp, hn, go_sem, simprocAttr])); fail_if_success (with_reducible refine eqOk_mk ?_))
       | ((with_reducible refine callE_B3 c51c ?_); simp -implicitDefEqProofs only [eqOk_true, RJ.cells, JN.av, hni, e1, e2, set_av0, set_emp, hn, go_sem, simprocAttr]; (skip; try (simp (disch := omega) only [wrW]; try simp -implicitDefEqProofs only [RJ.cells, JN.av, hni, e1, e2, set_av0, set_emp, hn, go_sem, simprocAttr])); fail_if_success (with_reducible refine eqOk_mk ?_))
       | ((first | ((with_reducible first | refine Rk.go k39_VsKVal (by constructor) ?_ | refine Rd.go 25 k39_VsKVal a39_25_VsKVal o39_25_VsKVal mixed (by constructor) (by kernel_rfl) (by kernel_rfl) ?_); intro K hK) | with_reducible refine Rr.go [] (by constructor) ?_ | (with_reducible refine guardP_split (fun hg => ?_) fun hg => ?_) <;> (try simp only [hg]) <;> (try simp only [hgW] at hg) | (with_reducible refine callE_B3 c40 ?_) | (with_reducible refine callE_B3 c53 ?_) | (with_reducible refine callE_B3 c41 ?_)) <;> simp -implicitDefEqProofs only [eqOk_true, RJ.cells, JN.av, hni, e1, e2, set_av0, set_emp, hn, go_sem, simprocAttr] <;> try (simp (disch := omega) only [wrW]; try simp -implicitDefEqProofs only [RJ.cells, JN.av, hni, e1, e2, set_av0, set_emp, hn, go_sem, simprocAttr]))
       | with_reducible refine And.intro (by first | omega | (simp only [hgW]; omega)) ?_
       | (exfalso; omega)
  rw [if_neg h34] at hR hmr
  rw [Bool.not_eq_true] at h34
  rw [h34] at c51c
  by_cases hwa : (wordC S2 trueB).1 = true
  · rw [if_pos hwa] at hR hmr
    rw [hwa] at c54a
    clear w54a w54b w54c
    generalize wordC S2 trueB = WW at *
    obtain ⟨w1, T⟩ := WW
    unfold endR at hR
    simp only [if_true] at hR
    simp only at hmr c54a
    subst hR
    obtain ⟨b, at_, deep, nodes, err⟩ := s
    obtain ⟨b0, at0, deep0, nodes0, err0⟩ := S0
    obtain ⟨Sb, Sa, Sd, Sn, Se⟩ := S2
    obtain ⟨Tb, Ta, Td, Tn, Te⟩ := T
    simp only at he he0 z1 z2 z3 z3' z4 z5 e1 e2 hmr hn256 hni
    subst he he0 z1 z2 z3 z3' z4 z5
    simp only [List.length_append, List.length_cons, List.length_nil] at hmr
    refine CallsB.intro Tryd.func39 rfl (by show 1 ≤ 87; decide) ?_
    rintro X hX
    have hn : X.n = 87 := hX
    unfold Tryd.f39
    dsimp only
    rw [entryB11]
    repeat' first
     | with_reducible refine Rl.go (by constructor <;> decide) ?_
     | ((with_reducible first | refine hK _ ?_ | refine hK.1 ?_ | refine hK.2 ?_); clear hK K)
     | ((with_reducible refine condS hK (fun hg => ?_) fun hg => ?_) <;> clear hK K <;> (try simp only [hgW] at hg) <;> try (exfalso; omega))
     | ((with_reducible refine callE_B3 c51a ?_); simp -implicitDefEqProofs only [eqOk_true, RJ.cells, JN.av, hni, e1, e2, set_av0, set_emp, hn, go_sem, simprocAttr]; (skip; try (simp (disch := omega) only [wrW]; try simp -implicitDefEqProofs only [RJ.cells, JN.av, hni, e1, e2, set_av0, set_emp, hn, go_sem, simprocAttr])); fail_if_success (with_reducible refine eqOk_mk ?_))
     | ((with_reducible refine callE_B3 c51b ?_); simp -implicitDefEqProofs only [eqOk_true, RJ.cells, JN.av, hni, e1, e2, set_av0, set_emp, hn, go_sem, simprocAttr]; (skip; try (simp (disch := omega) only [wrW]; try simp -implicitDefEqProofs only [RJ.cells, JN.av, hni, e1, e2, set_av0, set_emp, hn, go_sem, simprocAttr])); fail_if_success (with_reducible refine eqOk_mk ?_))
     | ((with_reducible refine callE_B3 c51c ?_); simp -implicitDefEqProofs only [eqOk_true, RJ.cells, JN.av, hni, e1, e2, set_av0, set_emp, hn, go_sem, simprocAttr]; (skip; try (simp (disch := omega) only [wrW]; try simp -implicitDefEqProofs only [RJ.cells, JN.av, hni, e1, e2, set_av0, set_emp, hn, go_sem, simprocAttr])); fail_if_success (with_reducible refine eqOk_mk ?_))
     | ((first | ((with_reducible first | refine Rk.go k39_VsKVal (by constructor) ?_ | refine Rd.go 25 k39_VsKVal a39_25_VsKVal o39_25_VsKVal mixed (by constructor) (by kernel_rfl) (by kernel_rfl) ?_); intro K hK) | with_reducible refine Rr.go [] (by constructor) ?_ | (with_reducible refine guardP_split (fun hg => ?_) fun hg => ?_) <;> (try simp only [hg]) <;> (try simp only [hgW] at hg) | (with_reducible refine callE_B3 c40 ?_) | (with_reducible refine callE_B3 c54a ?_)) <;> simp -implicitDefEqProofs only [eqOk_true, RJ.cells, JN.av, hni, e1, e2, set_av0, set_emp, hn, go_sem, simprocAttr] <;> try (simp (disch := omega) only [wrW]; try simp -implicitDefEqProofs only [RJ.cells, JN.av, hni, e1, e2, set_av0, set_emp, hn, go_sem, simprocAttr]))
     | with_reducible refine And.intro (by first | omega | (simp only [hgW]; omega)) ?_
     | (exfalso; omega)
  rw [if_neg hwa] at hR hmr
  rw [Bool.not_eq_true] at hwa
  rw [hwa, w54a hwa] at c54a
  by_cases hwb : (wordC S2 falseB).1 = true
  · rw [if_pos hwb] at hR hmr
    rw [hwb] at c54b
    clear w54a w54b w54c
    generalize wordC S2 falseB = WW at *
    obtain ⟨w1, T⟩ := WW
    unfold endR at hR
    simp only [if_true] at hR
    simp only at hmr c54b
    subst hR
    obtain ⟨b, at_, deep, nodes, err⟩ := s
    obtain ⟨b0, at0, deep0, nodes0, err0⟩ := S0
    obtain ⟨Sb, Sa, Sd, Sn, Se⟩ := S2
    obtain ⟨Tb, Ta, Td, Tn, Te⟩ := T
    simp only at he he0 z1 z2 z3 z3' z4 z5 e1 e2 hmr hn256 hni
    subst he he0 z1 z2 z3 z3' z4 z5
    simp only [List.length_append, List.length_cons, List.length_nil] at hmr
    refine CallsB.intro Tryd.func39 rfl (by show 1 ≤ 87; decide) ?_
    rintro X hX
    have hn : X.n = 87 := hX
    unfold Tryd.f39
    dsimp only
    rw [entryB11]
    repeat' first
     | with_reducible refine Rl.go (by constructor <;> decide) ?_
     | ((with_reducible first | refine hK _ ?_ | refine hK.1 ?_ | refine hK.2 ?_); clear hK K)
     | ((with_reducible refine condS hK (fun hg => ?_) fun hg => ?_) <;> clear hK K <;> (try simp only [hgW] at hg) <;> try (exfalso; omega))
     | ((with_reducible refine callE_B3 c51a ?_); simp -implicitDefEqProofs only [eqOk_true, RJ.cells, JN.av, hni, e1, e2, set_av0, set_emp, hn, go_sem, simprocAttr]; (skip; try (simp (disch := omega) only [wrW]; try simp -implicitDefEqProofs only [RJ.cells, JN.av, hni, e1, e2, set_av0, set_emp, hn, go_sem, simprocAttr])); fail_if_success (with_reducible refine eqOk_mk ?_))
     | ((with_reducible refine callE_B3 c51b ?_); simp -implicitDefEqProofs only [eqOk_true, RJ.cells, JN.av, hni, e1, e2, set_av0, set_emp, hn, go_sem, simprocAttr]; (skip; try (simp (disch := omega) only [wrW]; try simp -implicitDefEqProofs only [RJ.cells, JN.av, hni, e1, e2, set_av0, set_emp, hn, go_sem, simprocAttr])); fail_if_success (with_reducible refine eqOk_mk ?_))
     | ((with_reducible refine callE_B3 c51c ?_); simp -implicitDefEqProofs only [eqOk_true, RJ.cells, JN.av, hni, e1, e2, set_av0, set_emp, hn, go_sem, simprocAttr]; (skip; try (simp (disch := omega) only [wrW]; try simp -implicitDefEqProofs only [RJ.cells, JN.av, hni, e1, e2, set_av0, set_emp, hn, go_sem, simprocAttr])); fail_if_success (with_reducible refine eqOk_mk ?_))
     | ((with_reducible refine callE_B3 c54a ?_); simp -implicitDefEqProofs only [eqOk_true, RJ.cells, JN.av, hni, e1, e2, set_av0, set_emp, hn, go_sem, simprocAttr]; (skip; try (simp (disch := omega) only [wrW]; try simp -implicitDefEqProofs only [RJ.cells, JN.av, hni, e1, e2, set_av0, set_emp, hn, go_sem, simprocAttr])); fail_if_success (with_reducible refine eqOk_mk ?_))
     | ((with_reducible refine callE_B3 c54b ?_); simp -implicitDefEqProofs only [eqOk_true, RJ.cells, JN.av, hni, e1, e2, set_av0, set_emp, hn, go_sem, simprocAttr]; (skip; try (simp (disch := omega) only [wrW]; try simp -implicitDefEqProofs only [RJ.cells, JN.av, hni, e1, e2, set_av0, set_emp, hn, go_sem, simprocAttr])); fail_if_success (with_reducible refine eqOk_mk ?_))
     | ((first | ((with_reducible first | refine Rk.go k39_VsKVal (by constructor) ?_ | refine Rd.go 25 k39_VsKVal a39_25_VsKVal o39_25_VsKVal mixed (by constructor) (by kernel_rfl) (by kernel_rfl) ?_); intro K hK) | with_reducible refine Rr.go [] (by constructor) ?_ | (with_reducible refine guardP_split (fun hg => ?_) fun hg => ?_) <;> (try simp only [hg]) <;> (try simp only [hgW] at hg) | (with_reducible refine callE_B3 c40 ?_)) <;> simp -implicitDefEqProofs only [eqOk_true, RJ.cells, JN.av, hni, e1, e2, set_av0, set_emp, hn, go_sem, simprocAttr] <;> try (simp (disch := omega) only [wrW]; try simp -implicitDefEqProofs only [RJ.cells, JN.av, hni, e1, e2, set_av0, set_emp, hn, go_sem, simprocAttr]))
     | with_reducible refine And.intro (by first | omega | (simp only [hgW]; omega)) ?_
     | (exfalso; omega)
  rw [if_neg hwb] at hR hmr
  rw [Bool.not_eq_true] at hwb
  rw [hwb, w54b hwb] at c54b
  by_cases hwc : (wordC S2 nullB).1 = true
  · rw [if_pos hwc] at hR hmr
    rw [hwc] at c54c
    clear w54a w54b w54c
    generalize wordC S2 nullB = WW at *
    obtain ⟨w1, T⟩ := WW
    unfold endR at hR
    simp only [if_true] at hR
    simp only at hmr c54c
    subst hR
    obtain ⟨b, at_, deep, nodes, err⟩ := s
    obtain ⟨b0, at0, deep0, nodes0, err0⟩ := S0
    obtain ⟨Sb, Sa, Sd, Sn, Se⟩ := S2
    obtain ⟨Tb, Ta, Td, Tn, Te⟩ := T
    simp only at he he0 z1 z2 z3 z3' z4 z5 e1 e2 hmr hn256 hni
    subst he he0 z1 z2 z3 z3' z4 z5
    simp only [List.length_append, List.length_cons, List.length_nil] at hmr
    refine CallsB.intro Tryd.func39 rfl (by show 1 ≤ 87; decide) ?_
    rintro X hX
    have hn : X.n = 87 := hX
    unfold Tryd.f39
    dsimp only
    rw [entryB11]
    repeat' first
     | with_reducible refine Rl.go (by constructor <;> decide) ?_
     | ((with_reducible first | refine hK _ ?_ | refine hK.1 ?_ | refine hK.2 ?_); clear hK K)
     | ((with_reducible refine condS hK (fun hg => ?_) fun hg => ?_) <;> clear hK K <;> (try simp only [hgW] at hg) <;> try (exfalso; omega))
     | ((with_reducible refine callE_B3 c51a ?_); simp -implicitDefEqProofs only [eqOk_true, RJ.cells, JN.av, hni, e1, e2, set_av0, set_emp, hn, go_sem, simprocAttr]; (skip; try (simp (disch := omega) only [wrW]; try simp -implicitDefEqProofs only [RJ.cells, JN.av, hni, e1, e2, set_av0, set_emp, hn, go_sem, simprocAttr])); fail_if_success (with_reducible refine eqOk_mk ?_))
     | ((with_reducible refine callE_B3 c51b ?_); simp -implicitDefEqProofs only [eqOk_true, RJ.cells, JN.av, hni, e1, e2, set_av0, set_emp, hn, go_sem, simprocAttr]; (skip; try (simp (disch := omega) only [wrW]; try simp -implicitDefEqProofs only [RJ.cells, JN.av, hni, e1, e2, set_av0, set_emp, hn, go_sem, simprocAttr])); fail_if_success (with_reducible refine eqOk_mk ?_))
     | ((with_reducible refine callE_B3 c51c ?_); simp -implicitDefEqProofs only [eqOk_true, RJ.cells, JN.av, hni, e1, e2, set_av0, set_emp, hn, go_sem, simprocAttr]; (skip; try (simp (disch := omega) only [wrW]; try simp -implicitDefEqProofs only [RJ.cells, JN.av, hni, e1, e2, set_av0, set_emp, hn, go_sem, simprocAttr])); fail_if_success (with_reducible refine eqOk_mk ?_))
     | ((with_reducible refine callE_B3 c54a ?_); simp -implicitDefEqProofs only [eqOk_true, RJ.cells, JN.av, hni, e1, e2, set_av0, set_emp, hn, go_sem, simprocAttr]; (skip; try (simp (disch := omega) only [wrW]; try simp -implicitDefEqProofs only [RJ.cells, JN.av, hni, e1, e2, set_av0, set_emp, hn, go_sem, simprocAttr])); fail_if_success (with_reducible refine eqOk_mk ?_))
     | ((with_reducible refine callE_B3 c54b ?_); simp -implicitDefEqProofs only [eqOk_true, RJ.cells, JN.av, hni, e1, e2, set_av0, set_emp, hn, go_sem, simprocAttr]; (skip; try (simp (disch := omega) only [wrW]; try simp -implicitDefEqProofs only [RJ.cells, JN.av, hni, e1, e2, set_av0, set_emp, hn, go_sem, simprocAttr])); fail_if_success (with_reducible refine eqOk_mk ?_))
     | ((with_reducible refine callE_B3 c54c ?_); simp -implicitDefEqProofs only [eqOk_true, RJ.cells, JN.av, hni, e1, e2, set_av0, set_emp, hn, go_sem, simprocAttr]; (skip; try (simp (disch := omega) only [wrW]; try simp -implicitDefEqProofs only [RJ.cells, JN.av, hni, e1, e2, set_av0, set_emp, hn, go_sem, simprocAttr])); fail_if_success (with_reducible refine eqOk_mk ?_))
     | ((first | ((with_reducible first | refine Rk.go k39_VsKVal (by constructor) ?_ | refine Rd.go 25 k39_VsKVal a39_25_VsKVal o39_25_VsKVal mixed (by constructor) (by kernel_rfl) (by kernel_rfl) ?_); intro K hK) | with_reducible refine Rr.go [] (by constructor) ?_ | (with_reducible refine guardP_split (fun hg => ?_) fun hg => ?_) <;> (try simp only [hg]) <;> (try simp only [hgW] at hg) | (with_reducible refine callE_B3 c40 ?_)) <;> simp -implicitDefEqProofs only [eqOk_true, RJ.cells, JN.av, hni, e1, e2, set_av0, set_emp, hn, go_sem, simprocAttr] <;> try (simp (disch := omega) only [wrW]; try simp -implicitDefEqProofs only [RJ.cells, JN.av, hni, e1, e2, set_av0, set_emp, hn, go_sem, simprocAttr]))
     | with_reducible refine And.intro (by first | omega | (simp only [hgW]; omega)) ?_
     | (exfalso; omega)
  rw [if_neg hwc] at hR hmr
  rw [Bool.not_eq_true] at hwc
  rw [hwc, w54c hwc] at c54c
  clear w54a w54b w54c
  have c55 := f55_ok S2 nb hO2
  generalize numberC S2 = B at *
  obtain ⟨⟨xt, ok⟩, T⟩ := B
  simp only at hR hmr c55
  unfold endR at hR
  simp only at hR
  have c41 := f41_ok T nb 11
  have hFn := (fail_b T 11).2.2.1
  cases ok with
  | true =>
    simp only [if_true] at hR
    subst hR
    obtain ⟨b, at_, deep, nodes, err⟩ := s
    obtain ⟨b0, at0, deep0, nodes0, err0⟩ := S0
    obtain ⟨Sb, Sa, Sd, Sn, Se⟩ := S2
    obtain ⟨Tb, Ta, Td, Tn, Te⟩ := T
    simp only at he he0 z1 z2 z3 z3' z4 z5 e1 e2 hmr hn256 hni
    subst he he0 z1 z2 z3 z3' z4 z5
    simp only [List.length_append, List.length_cons, List.length_nil] at hmr
    refine CallsB.intro Tryd.func39 rfl (by show 1 ≤ 87; decide) ?_
    rintro X hX
    have hn : X.n = 87 := hX
    unfold Tryd.f39
    dsimp only
    rw [entryB11]
    repeat' first
     | with_reducible refine Rl.go (by constructor <;> decide) ?_
     | ((with_reducible first | refine hK _ ?_ | refine hK.1 ?_ | refine hK.2 ?_); clear hK K)
     | ((with_reducible refine condS hK (fun hg => ?_) fun hg => ?_) <;> clear hK K <;> (try simp only [hgW] at hg) <;> try (exfalso; omega))
     | ((with_reducible refine callE_B3 c51a ?_); simp -implicitDefEqProofs only [eqOk_true, RJ.cells, JN.av, hni, e1, e2, set_av0, set_emp, hn, go_sem, simprocAttr]; (skip; try (simp (disch := omega) only [wrW]; try simp -implicitDefEqProofs only [RJ.cells, JN.av, hni, e1, e2, set_av0, set_emp, hn, go_sem, simprocAttr])); fail_if_success (with_reducible refine eqOk_mk ?_))
     | ((with_reducible refine callE_B3 c51b ?_); simp -implicitDefEqProofs only [eqOk_true, RJ.cells, JN.av, hni, e1, e2, set_av0, set_emp, hn, go_sem, simprocAttr]; (skip; try (simp (disch := omega) only [wrW]; try simp -implicitDefEqProofs only [RJ.cells, JN.av, hni, e1, e2, set_av0, set_emp, hn, go_sem, simprocAttr])); fail_if_success (with_reducible refine eqOk_mk ?_))
     | ((with_reducible refine callE_B3 c51c ?_); simp -implicitDefEqProofs only [eqOk_true, RJ.cells, JN.av, hni, e1, e2, set_av0, set_emp, hn, go_sem, simprocAttr]; (skip; try (simp (disch := omega) only [wrW]; try simp -implicitDefEqProofs only [RJ.cells, JN.av, hni, e1, e2, set_av0, set_emp, hn, go_sem, simprocAttr])); fail_if_success (with_reducible refine eqOk_mk ?_))
     | ((with_reducible refine callE_B3 c54a ?_); simp -implicitDefEqProofs only [eqOk_true, RJ.cells, JN.av, hni, e1, e2, set_av0, set_emp, hn, go_sem, simprocAttr]; (skip; try (simp (disch := omega) only [wrW]; try simp -implicitDefEqProofs only [RJ.cells, JN.av, hni, e1, e2, set_av0, set_emp, hn, go_sem, simprocAttr])); fail_if_success (with_reducible refine eqOk_mk ?_))
     | ((with_reducible refine callE_B3 c54b ?_); simp -implicitDefEqProofs only [eqOk_true, RJ.cells, JN.av, hni, e1, e2, set_av0, set_emp, hn, go_sem, simprocAttr]; (skip; try (simp (disch := omega) only [wrW]; try simp -implicitDefEqProofs only [RJ.cells, JN.av, hni, e1, e2, set_av0, set_emp, hn, go_sem, simprocAttr])); fail_if_success (with_reducible refine eqOk_mk ?_))
     | ((with_reducible refine callE_B3 c54c ?_); simp -implicitDefEqProofs only [eqOk_true, RJ.cells, JN.av, hni, e1, e2, set_av0, set_emp, hn, go_sem, simprocAttr]; (skip; try (simp (disch := omega) only [wrW]; try simp -implicitDefEqProofs only [RJ.cells, JN.av, hni, e1, e2, set_av0, set_emp, hn, go_sem, simprocAttr])); fail_if_success (with_reducible refine eqOk_mk ?_))
     | ((first | ((with_reducible first | refine Rk.go k39_VsKVal (by constructor) ?_ | refine Rd.go 25 k39_VsKVal a39_25_VsKVal o39_25_VsKVal mixed (by constructor) (by kernel_rfl) (by kernel_rfl) ?_); intro K hK) | with_reducible refine Rr.go [] (by constructor) ?_ | (with_reducible refine guardP_split (fun hg => ?_) fun hg => ?_) <;> (try simp only [hg]) <;> (try simp only [hgW] at hg) | (with_reducible refine callE_B3 c40 ?_) | (with_reducible refine callE_B3 c55 ?_)) <;> simp -implicitDefEqProofs only [eqOk_true, RJ.cells, JN.av, hni, e1, e2, set_av0, set_emp, hn, go_sem, simprocAttr] <;> try (simp (disch := omega) only [wrW]; try simp -implicitDefEqProofs only [RJ.cells, JN.av, hni, e1, e2, set_av0, set_emp, hn, go_sem, simprocAttr]))
     | with_reducible refine And.intro (by first | omega | (simp only [hgW]; omega)) ?_
     | (exfalso; omega)
  | false =>
    simp only [Bool.false_eq_true, if_false] at hR
    generalize T.fail 11 = F at *
    subst hR
    obtain ⟨b, at_, deep, nodes, err⟩ := s
    obtain ⟨b0, at0, deep0, nodes0, err0⟩ := S0
    obtain ⟨Sb, Sa, Sd, Sn, Se⟩ := S2
    obtain ⟨Tb, Ta, Td, Tn, Te⟩ := T
    obtain ⟨Fb, Fa, Fd, Fn, Fe⟩ := F
    simp only at he he0 z1 z2 z3 z3' z4 z5 e1 e2 hmr hn256 hni hFn
    subst he he0 z1 z2 z3 z3' z4 z5 hFn
    simp only [List.length_append, List.length_cons, List.length_nil] at hmr
    refine CallsB.intro Tryd.func39 rfl (by show 1 ≤ 87; decide) ?_
    rintro X hX
    have hn : X.n = 87 := hX
    unfold Tryd.f39
    dsimp only
    rw [entryB11]
    repeat' first
     | with_reducible refine Rl.go (by constructor <;> decide) ?_
     | ((with_reducible first | refine hK _ ?_ | refine hK.1 ?_ | refine hK.2 ?_); clear hK K)
     | ((with_reducible refine condS hK (fun hg => ?_) fun hg => ?_) <;> clear hK K <;> (try simp only [hgW] at hg) <;> try (exfalso; omega))
     | ((with_reducible refine callE_B3 c51a ?_); simp -implicitDefEqProofs only [eqOk_true, RJ.cells, JN.av, hni, e1, e2, set_av0, set_emp, hn, go_sem, simprocAttr]; (skip; try (simp (disch := omega) only [wrW]; try simp -implicitDefEqProofs only [RJ.cells, JN.av, hni, e1, e2, set_av0, set_emp, hn, go_sem, simprocAttr])); fail_if_success (with_reducible refine eqOk_mk ?_))
     | ((with_reducible refine callE_B3 c51b ?_); simp -implicitDefEqProofs only [eqOk_true, RJ.cells, JN.av, hni, e1, e2, set_av0, set_emp, hn, go_sem, simprocAttr]; (skip; try (simp (disch := omega) only [wrW]; try simp -implicitDefEqProofs only [RJ.cells, JN.av, hni, e1, e2, set_av0, set_emp, hn, go_sem, simprocAttr])); fail_if_success (with_reducible refine eqOk_mk ?_))
     | ((with_reducible refine callE_B3 c51c ?_); simp -implicitDefEqProofs only [eqOk_true, RJ.cells, JN.av, hni, e1, e2, set_av0, set_emp, hn, go_sem, simprocAttr]; (skip; try (simp (disch := omega) only [wrW]; try simp -implicitDefEqProofs only [RJ.cells, JN.av, hni, e1, e2, set_av0, set_emp, hn, go_sem, simprocAttr])); fail_if_success (with_reducible refine eqOk_mk ?_))
     | ((with_reducible refine callE_B3 c54a ?_); simp -implicitDefEqProofs only [eqOk_true, RJ.cells, JN.av, hni, e1, e2, set_av0, set_emp, hn, go_sem, simprocAttr]; (skip; try (simp (disch := omega) only [wrW]; try simp -implicitDefEqProofs only [RJ.cells, JN.av, hni, e1, e2, set_av0, set_emp, hn, go_sem, simprocAttr])); fail_if_success (with_reducible refine eqOk_mk ?_))
     | ((with_reducible refine callE_B3 c54b ?_); simp -implicitDefEqProofs only [eqOk_true, RJ.cells, JN.av, hni, e1, e2, set_av0, set_emp, hn, go_sem, simprocAttr]; (skip; try (simp (disch := omega) only [wrW]; try simp -implicitDefEqProofs only [RJ.cells, JN.av, hni, e1, e2, set_av0, set_emp, hn, go_sem, simprocAttr])); fail_if_success (with_reducible refine eqOk_mk ?_))
     | ((with_reducible refine callE_B3 c54c ?_); simp -implicitDefEqProofs only [eqOk_true, RJ.cells, JN.av, hni, e1, e2, set_av0, set_emp, hn, go_sem, simprocAttr]; (skip; try (simp (disch := omega) only [wrW]; try simp -implicitDefEqProofs only [RJ.cells, JN.av, hni, e1, e2, set_av0, set_emp, hn, go_sem, simprocAttr])); fail_if_success (with_reducible refine eqOk_mk ?_))
     | ((first | ((with_reducible first | refine Rk.go k39_VsKVal (by constructor) ?_ | refine Rd.go 25 k39_VsKVal a39_25_VsKVal o39_25_VsKVal mixed (by constructor) (by kernel_rfl) (by kernel_rfl) ?_); intro K hK) | with_reducible refine Rr.go [] (by constructor) ?_ | (with_reducible refine guardP_split (fun hg => ?_) fun hg => ?_) <;> (try simp only [hg]) <;> (try simp only [hgW] at hg) | (with_reducible refine callE_B3 c40 ?_) | (with_reducible refine callE_B3 c55 ?_) | (with_reducible refine callE_B3 c41 ?_)) <;> simp -implicitDefEqProofs only [eqOk_true, RJ.cells, JN.av, hni, e1, e2, set_av0, set_emp, hn, go_sem, simprocAttr] <;> try (simp (disch := omega) only [wrW]; try simp -implicitDefEqProofs only [RJ.cells, JN.av, hni, e1, e2, set_av0, set_emp, hn, go_sem, simprocAttr]))
     | with_reducible refine And.intro (by first | omega | (simp only [hgW]; omega)) ?_
     | (exfalso; omega)
theorem valR_ok : ∀ d : Nat, d ≤ 8 → ∀ n, n + d = 9 → ValRk (valR n) d := by
  have go : ∀ n d : Nat, d ≤ 8 → n + d = 9 → ValRk (valR n) d := by
    intro n
    induction n with
    | zero => intro d h1 h2; omega
    | succ n ih =>
      intro d h1 h2
      obtain ⟨K, hm⟩ := valR_keep n
      exact f39_ok K hm d h1 fun h3 => ih (d + 1) h3 (by omega)
  exact fun d h1 n h2 => go n d h1 h2
/-- Parse, as the document has it. -/
def parseR (b : List UInt8) : List JN × Nat :=
  if 4096 < b.length then ([], 3)
  else
    let t := blankS (valR 9 ⟨b, 0, 0, [], 0⟩).2
    let s := if t.err = 0 ∧ t.at_ < t.b.length then t.fail 11 else t
    if s.err ≠ 0 then ([], s.err) else (s.nodes, 0)
def k30_VsKVal : List Nat := [0,2,3,4,7,28,35]
def a30_9_VsKVal : List Nat := [0,1,3,7,0,31]
def o30_9_VsKVal : List Nat := [0,1,2,3,4,5]
attribute [go_sem] k30_VsKVal a30_9_VsKVal o30_9_VsKVal
theorem f30_ok (b : List UInt8) (nb : Bool) : CallsP Tryd.prog 30 [.sl none nb 1 (b.map u8)] (.tup [.sl none (parseR b).1.isEmpty 4 ((parseR b).1.map JN.av), .int .i64 ((parseR b).2 : Int)]) := by
  obtain ⟨R, hR⟩ : ∃ R, parseR b = R := ⟨_, rfl⟩
  rw [hR]
  unfold parseR at hR
  by_cases hl : 4096 < b.length
  · rw [if_pos hl] at hR
    subst hR
    refine CallsP.introF Tryd.func30 rfl (by show 1 ≤ 44; decide) ?_
    rintro X hX
    have hn : X.n = 44 := hX
    unfold Tryd.f30
    dsimp only
    rw [entryB_0, entry1]
    repeat' first
     | with_reducible refine Rl.go (by constructor <;> decide) ?_
     | ((with_reducible first | refine hK _ ?_ | refine hK.1 ?_ | refine hK.2 ?_); clear hK K)
     | ((with_reducible refine condS hK (fun hg => ?_) fun hg => ?_) <;> clear hK K <;> (try simp only [hgW] at hg) <;> try (exfalso; omega))
     | ((first | ((with_reducible first | refine Rk.go k30_VsKVal (by constructor) ?_ | refine Rd.go 9 k30_VsKVal a30_9_VsKVal o30_9_VsKVal mixed (by constructor) (by kernel_rfl) (by kernel_rfl) ?_); intro K hK) | with_reducible refine Rr.go [] (by constructor) ?_ | (with_reducible refine guardP_split (fun hg => ?_) fun hg => ?_) <;> (try simp only [hg]) <;> (try simp only [hgW] at hg)) <;> simp -implicitDefEqProofs only [hn, go_sem, simprocAttr] <;> try (simp (disch := omega) only [wrW]; try simp -implicitDefEqProofs only [hn, go_sem, simprocAttr]))
     | with_reducible refine And.intro (by first | omega | (simp only [hgW]; omega)) ?_
     | (exfalso; omega)
  rw [if_neg hl] at hR
  simp only at hR
  obtain ⟨K, hm⟩ := valR_keep 9
  have hO : OkJ ⟨b, 0, 0, [], 0⟩ := ⟨Nat.zero_le _, by simp only; omega, by simp⟩
  have c39 := valR_ok 0 (by omega) 9 rfl ⟨b, 0, 0, [], 0⟩ nb rfl hO rfl
  have kk := keep_val K hm _ hO
  have hmore := K.more _ hO
  generalize valR 9 ⟨b, 0, 0, [], 0⟩ = V at *
  obtain ⟨v, V2⟩ := V
  simp only at c39 kk hR hmore
  have c40 := f40_ok V2 nb kk.ok
  have kh := kk.trans (blank_keep V2 kk.ok)
  generalize blankS V2 = H2 at *
  have hHb : H2.b = b := kh.b
  have c41 := f41_ok H2 nb 11
  by_cases hb : H2.err = 0 ∧ H2.at_ < H2.b.length
  · rw [if_pos hb] at hR
    obtain ⟨w1, w2, w3, w4, w5⟩ := fail_b H2 11
    generalize H2.fail 11 = F at *
    rw [if_pos (w5 (by decide))] at hR
    subst hR
    have w5' := w5 (by decide)
    obtain ⟨Vb, Va, Vd, Vn, Ve⟩ := V2
    obtain ⟨Hb, Ha, Hd, Hn, He⟩ := H2
    obtain ⟨Fb, Fa, Fd, Fn, Fe⟩ := F
    simp only at hHb w5' hb
    obtain ⟨hb1, hb2⟩ := hb
    subst hHb hb1
    refine CallsP.introF Tryd.func30 rfl (by show 1 ≤ 44; decide) ?_
    rintro X hX
    have hn : X.n = 44 := hX
    unfold Tryd.f30
    dsimp only
    rw [entryB_0, entry1]
    repeat' first
     | (with_reducible refine markDQ 4 ?_)
     | with_reducible refine Rl.go (by constructor <;> decide) ?_
     | ((with_reducible first | refine hK _ ?_ | refine hK.1 ?_ | refine hK.2 ?_); clear hK K)
     | ((with_reducible refine condS hK (fun hg => ?_) fun hg => ?_) <;> clear hK K <;> (try simp only [hgW] at hg) <;> try (exfalso; omega))
     | ((first | ((with_reducible first | refine Rk.go k30_VsKVal (by constructor) ?_ | refine Rd.go 9 k30_VsKVal a30_9_VsKVal o30_9_VsKVal mixed (by constructor) (by kernel_rfl) (by kernel_rfl) ?_); intro K hK) | with_reducible refine Rr.go [] (by constructor) ?_ | (with_reducible refine guardP_split (fun hg => ?_) fun hg => ?_) <;> (try simp only [hg]) <;> (try simp only [hgW] at hg)) <;> simp -implicitDefEqProofs only [hn, go_sem, simprocAttr] <;> try (simp (disch := omega) only [wrW]; try simp -implicitDefEqProofs only [hn, go_sem, simprocAttr]))
     | with_reducible refine And.intro (by first | omega | (simp only [hgW]; omega)) ?_
     | (exfalso; omega)
    unfold MarkD
    refine AWP.adoptB 10 3 (0, 999) 0 4 (by rfl) (by rfl) ?_
    repeat' first
     | with_reducible refine Rl.go (by constructor <;> decide) ?_
     | ((with_reducible first | refine hK _ ?_ | refine hK.1 ?_ | refine hK.2 ?_); clear hK K)
     | ((with_reducible refine condS hK (fun hg => ?_) fun hg => ?_) <;> clear hK K <;> (try simp only [hgW] at hg) <;> try (exfalso; omega))
     | ((first | ((with_reducible first | refine Rk.go k30_VsKVal (by constructor) ?_ | refine Rd.go 9 k30_VsKVal a30_9_VsKVal o30_9_VsKVal mixed (by constructor) (by kernel_rfl) (by kernel_rfl) ?_); intro K hK) | with_reducible refine Rr.go [] (by constructor) ?_ | (with_reducible refine guardP_split (fun hg => ?_) fun hg => ?_) <;> (try simp only [hg]) <;> (try simp only [hgW] at hg) | (with_reducible refine callE_B3 c39 ?_) | (with_reducible refine callE_B3 c40 ?_) | (with_reducible refine callE_B3 c41 ?_)) <;> simp -implicitDefEqProofs only [eqOk_true, RJ.cells, w5', hn, go_sem, simprocAttr] <;> try (simp (disch := omega) only [wrW]; try simp -implicitDefEqProofs only [RJ.cells, w5', hn, go_sem, simprocAttr]))
     | with_reducible refine And.intro (by first | omega | (simp only [hgW]; omega)) ?_
     | (exfalso; omega)
  · rw [if_neg hb] at hR
    by_cases he : H2.err = 0
    · rw [if_neg (by simpa using he)] at hR
      subst hR
      obtain ⟨Vb, Va, Vd, Vn, Ve⟩ := V2
      obtain ⟨Hb, Ha, Hd, Hn, He⟩ := H2
      simp only at hHb he hb
      subst hHb he
      have hlt : ¬ Ha < Hb.length := fun h => hb ⟨rfl, h⟩
      refine CallsP.introF Tryd.func30 rfl (by show 1 ≤ 44; decide) ?_
      rintro X hX
      have hn : X.n = 44 := hX
      unfold Tryd.f30
      dsimp only
      rw [entryB_0, entry1]
      repeat' first
       | (with_reducible refine markDQ 4 ?_)
       | with_reducible refine Rl.go (by constructor <;> decide) ?_
       | ((with_reducible first | refine hK _ ?_ | refine hK.1 ?_ | refine hK.2 ?_); clear hK K)
       | ((with_reducible refine condS hK (fun hg => ?_) fun hg => ?_) <;> clear hK K <;> (try simp only [hgW] at hg) <;> try (exfalso; omega))
       | ((first | ((with_reducible first | refine Rk.go k30_VsKVal (by constructor) ?_ | refine Rd.go 9 k30_VsKVal a30_9_VsKVal o30_9_VsKVal mixed (by constructor) (by kernel_rfl) (by kernel_rfl) ?_); intro K hK) | with_reducible refine Rr.go [] (by constructor) ?_ | (with_reducible refine guardP_split (fun hg => ?_) fun hg => ?_) <;> (try simp only [hg]) <;> (try simp only [hgW] at hg)) <;> simp -implicitDefEqProofs only [hn, go_sem, simprocAttr] <;> try (simp (disch := omega) only [wrW]; try simp -implicitDefEqProofs only [hn, go_sem, simprocAttr]))
       | with_reducible refine And.intro (by first | omega | (simp only [hgW]; omega)) ?_
       | (exfalso; omega)
      unfold MarkD
      refine AWP.adoptB 10 3 (0, 999) 0 4 (by rfl) (by rfl) ?_
      repeat' first
       | with_reducible refine Rl.go (by constructor <;> decide) ?_
       | ((with_reducible first | refine hK _ ?_ | refine hK.1 ?_ | refine hK.2 ?_); clear hK K)
       | ((with_reducible refine condS hK (fun hg => ?_) fun hg => ?_) <;> clear hK K <;> (try simp only [hgW] at hg) <;> try (exfalso; omega))
       | ((first | ((with_reducible first | refine Rk.go k30_VsKVal (by constructor) ?_ | refine Rd.go 9 k30_VsKVal a30_9_VsKVal o30_9_VsKVal mixed (by constructor) (by kernel_rfl) (by kernel_rfl) ?_); intro K hK) | with_reducible refine Rr.go [] (by constructor) ?_ | (with_reducible refine guardP_split (fun hg => ?_) fun hg => ?_) <;> (try simp only [hg]) <;> (try simp only [hgW] at hg) | (with_reducible refine callE_B3 c39 ?_) | (with_reducible refine callE_B3 c40 ?_)) <;> simp -implicitDefEqProofs only [eqOk_true, RJ.cells, hn, go_sem, simprocAttr] <;> try (simp (disch := omega) only [wrW]; try simp -implicitDefEqProofs only [RJ.cells, hn, go_sem, simprocAttr]))
       | with_reducible refine And.intro (by first | omega | (simp only [hgW]; omega)) ?_
       | (exfalso; omega)
    · rw [if_pos he] at hR
      subst hR
      obtain ⟨Vb, Va, Vd, Vn, Ve⟩ := V2
      obtain ⟨Hb, Ha, Hd, Hn, He⟩ := H2
      simp only at hHb he
      subst hHb
      refine CallsP.introF Tryd.func30 rfl (by show 1 ≤ 44; decide) ?_
      rintro X hX
      have hn : X.n = 44 := hX
      unfold Tryd.f30
      dsimp only
      rw [entryB_0, entry1]
      repeat' first
       | (with_reducible refine markDQ 4 ?_)
       | with_reducible refine Rl.go (by constructor <;> decide) ?_
       | ((with_reducible first | refine hK _ ?_ | refine hK.1 ?_ | refine hK.2 ?_); clear hK K)
       | ((with_reducible refine condS hK (fun hg => ?_) fun hg => ?_) <;> clear hK K <;> (try simp only [hgW] at hg) <;> try (exfalso; omega))
       | ((first | ((with_reducible first | refine Rk.go k30_VsKVal (by constructor) ?_ | refine Rd.go 9 k30_VsKVal a30_9_VsKVal o30_9_VsKVal mixed (by constructor) (by kernel_rfl) (by kernel_rfl) ?_); intro K hK) | with_reducible refine Rr.go [] (by constructor) ?_ | (with_reducible refine guardP_split (fun hg => ?_) fun hg => ?_) <;> (try simp only [hg]) <;> (try simp only [hgW] at hg)) <;> simp -implicitDefEqProofs only [hn, go_sem, simprocAttr] <;> try (simp (disch := omega) only [wrW]; try simp -implicitDefEqProofs only [hn, go_sem, simprocAttr]))
       | with_reducible refine And.intro (by first | omega | (simp only [hgW]; omega)) ?_
       | (exfalso; omega)
      unfold MarkD
      refine AWP.adoptB 10 3 (0, 999) 0 4 (by rfl) (by rfl) ?_
      repeat' first
       | with_reducible refine Rl.go (by constructor <;> decide) ?_
       | ((with_reducible first | refine hK _ ?_ | refine hK.1 ?_ | refine hK.2 ?_); clear hK K)
       | ((with_reducible refine condS hK (fun hg => ?_) fun hg => ?_) <;> clear hK K <;> (try simp only [hgW] at hg) <;> try (exfalso; omega))
       | ((first | ((with_reducible first | refine Rk.go k30_VsKVal (by constructor) ?_ | refine Rd.go 9 k30_VsKVal a30_9_VsKVal o30_9_VsKVal mixed (by constructor) (by kernel_rfl) (by kernel_rfl) ?_); intro K hK) | with_reducible refine Rr.go [] (by constructor) ?_ | (with_reducible refine guardP_split (fun hg => ?_) fun hg => ?_) <;> (try simp only [hg]) <;> (try simp only [hgW] at hg) | (with_reducible refine callE_B3 c39 ?_) | (with_reducible refine callE_B3 c40 ?_)) <;> simp -implicitDefEqProofs only [eqOk_true, RJ.cells, he, hn, go_sem, simprocAttr] <;> try (simp (disch := omega) only [wrW]; try simp -implicitDefEqProofs only [RJ.cells, he, hn, go_sem, simprocAttr]))
       | with_reducible refine And.intro (by first | omega | (simp only [hgW]; omega)) ?_
       | (exfalso; omega)
end Go.Proofs.YtfemncfhiihckaaDoor
