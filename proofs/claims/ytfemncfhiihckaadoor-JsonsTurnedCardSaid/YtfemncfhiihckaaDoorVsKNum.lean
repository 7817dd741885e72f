/- What the document's number comes to. -/
import Derived.Test.YtfemncfhiihckaaDoorVsKHead
open Go Go.VS
namespace Go.Proofs.YtfemncfhiihckaaDoor
set_option linter.unusedVariables false
set_option linter.unusedSimpArgs false
set_option maxRecDepth 20000
set_option maxHeartbeats 4000000
theorem wordP_one (b : List UInt8) (i : Nat) (c : UInt8) : wordP b i [c] = isP b i [c] := by
  unfold wordP isP
  by_cases h : i < b.length
  · rw [drop_at b i h]
    simp only [List.length_cons, List.length_nil, Nat.zero_add, List.take_succ_cons, List.take_zero, List.cons.injEq, and_true, List.mem_singleton, h, true_and]
  · rw [List.drop_of_length_le (by omega)]
    simp [h]
theorem isP_two (b : List UInt8) (i : Nat) (c d : UInt8) : isP b i [c, d] = if (isP b i [c]).1 = true then isP b i [c] else isP b i [d] := by
  unfold isP
  generalize b.getD i default = x
  by_cases h : i < b.length
  · by_cases h1 : x = c
    · subst h1; simp [h]
    · by_cases h2 : x = d
      · subst h2; simp [h, h1]
      · simp [h, h1, h2]
  · simp [h]
theorem isP_false (b : List UInt8) (i : Nat) (l : List UInt8) (h : (isP b i l).1 = false) : (isP b i l).2 = i := by
  unfold isP at h ⊢
  split
  · rename_i hc; rw [if_pos hc] at h; cases h
  · rfl
def numberC (s : RJ) : (List UInt8 × Bool) × RJ :=
  ((if (numP s.b s.at_).1 = true then (s.b.drop s.at_).take ((numP s.b s.at_).2 - s.at_) else [], (numP s.b s.at_).1), { s with at_ := (numP s.b s.at_).2 })
def k55_VsKNum : List Nat := [0,2,3,4,5,6,25,32,38,41,46]
def a55_14_VsKNum : List Nat := [0,1,3,7,0,0,32,96,224,511,1023,2047,4095]
def o55_14_VsKNum : List Nat := [0,1,2,3,4,5,6,7,8,9,10,11,12]
attribute [go_sem] k55_VsKNum a55_14_VsKNum o55_14_VsKNum
def tlD (c : Code) : Code := match c with
  | .seq _ b => b
  | c => c
theorem f55_tail (b : List UInt8) (nb : Bool) (at_ deep err : Nat) (nodes : List JN) (g2 : b.length ≤ 100000) (g3 : nodes.length ≤ 256) (i2 : Nat) (hi2 : i2 ≤ b.length) (hai : at_ ≤ i2) (ok : Bool) (e : Nat) (hle : at_ ≤ e ∧ e ≤ b.length) (hR : numP4 b true i2 = (ok, e)) {X : Ent} (hX : X.n = Tryd.f55.ntmps) :
    AWP Tryd.prog X (tlD (tlD (tlD (tlD (tlD (tlD (tlD ((Tryd.f55.body).getD .skip)))))))) (retSB Tryd.prog Tryd.f55.results.toList 1 (.tup [.str (if ok = true then (b.drop at_).take (e - at_) else []), .bool ok]) [(RJ.mk b e deep nodes err).cells nb (3, 0)])
      (St.mk (lk [(0, .ptr 1000000 0), (2, .str []), (3, .bool false), (4, .int .i64 (at_ : Int))]) (lkB [(1000000, (RJ.mk b i2 deep nodes err).cells nb (4, 0))]) (hasS []) (hasS []) (hasN []) (lkR [])) := by
  have OK := fun (i : Nat) (hi : i ≤ b.length) => (⟨hi, g2, g3⟩ : OkJ ⟨b, i, deep, nodes, err⟩)
  have KW := fun (i : Nat) (c : UInt8) (hi : i ≤ b.length) => by
    have := f54_ok ⟨b, i, deep, nodes, err⟩ nb (OK i hi) [c] (by simp)
    unfold wordC at this
    rw [wordP_one] at this
    exact this
  have KD := fun (i : Nat) (hi : i ≤ b.length) => f69_ok ⟨b, i, deep, nodes, err⟩ nb (OK i hi)
  have he1 : (b.take e).drop at_ = (b.drop at_).take (e - at_) := List.drop_take
  have hn : X.n = 58 := hX
  unfold Tryd.f55
  dsimp only [tlD, Option.getD_some]
  unfold numP4 at hR
  simp only [if_true] at hR
  rw [isP_two] at hR
  have hQ := isP_le b i2 [101] hi2
  have cQ := KW i2 101 hi2
  have hQf := isP_false b i2 [101]
  generalize isP b i2 [101] = Q at *
  obtain ⟨q1, q2⟩ := Q
  simp only at hQ cQ hQf hR
  have hU := isP_le b i2 [69] hi2
  have cU := KW i2 69 hi2
  have hUf := isP_false b i2 [69]
  generalize isP b i2 [69] = U at *
  obtain ⟨u1, u2⟩ := U
  simp only at hU cU hUf hR
  have hex : (q1 = false ∧ u1 = false ∧ q2 = i2 ∧ u2 = i2 ∧ ok = true ∧ e = i2) ∨ ∃ i3, digP b (isP b i3 [43, 45]).2 = (ok, e) ∧ i3 ≤ b.length ∧ ((q1 = true ∧ i3 = q2) ∨ (q1 = false ∧ q2 = i2 ∧ u1 = true ∧ i3 = u2)) := by
    cases q1 with
    | false =>
      simp only [Bool.false_eq_true, if_false] at hR
      have hq := hQf rfl
      cases u1 with
      | false =>
        simp only [Bool.false_eq_true, if_false] at hR
        have hu := hUf rfl
        obtain ⟨rfl, rfl⟩ := Prod.mk.inj hR
        exact .inl ⟨rfl, rfl, hq, hu, rfl, hu⟩
      | true =>
        simp only [if_true] at hR
        exact .inr ⟨u2, hR, by omega, .inr ⟨rfl, hq, rfl, rfl⟩⟩
    | true =>
      simp only [if_true] at hR
      exact .inr ⟨q2, hR, by omega, .inl ⟨rfl, rfl⟩⟩
  clear hR hQf hUf
  rcases hex with ⟨rfl, rfl, rfl, rfl, rfl, rfl⟩ | ⟨i3, hR, hi3, hcs⟩
  · rw [if_pos rfl]
    repeat' first
     | with_reducible refine Rl.go (by constructor <;> decide) ?_
     | ((with_reducible first | refine hK _ ?_ | refine hK.1 ?_ | refine hK.2 ?_); clear hK K)
     | ((with_reducible refine condS hK (fun hg => ?_) fun hg => ?_) <;> clear hK K <;> (try simp only [hgW] at hg) <;> try (exfalso; omega))
     | ((with_reducible refine callE_B3 cQ ?_); simp -implicitDefEqProofs only [eqOk_true, RJ.cells, u8, he1, hn, go_sem, simprocAttr]; (skip; try (simp (disch := omega) only [wrW]; try simp -implicitDefEqProofs only [RJ.cells, u8, he1, hn, go_sem, simprocAttr])); fail_if_success (with_reducible refine eqOk_mk ?_))
     | ((with_reducible refine callE_B3 cU ?_); simp -implicitDefEqProofs only [eqOk_true, RJ.cells, u8, he1, hn, go_sem, simprocAttr]; (skip; try (simp (disch := omega) only [wrW]; try simp -implicitDefEqProofs only [RJ.cells, u8, he1, hn, go_sem, simprocAttr])); fail_if_success (with_reducible refine eqOk_mk ?_))
     | ((first | ((with_reducible first | refine Rk.go k55_VsKNum (by constructor) ?_ | refine Rd.go 14 k55_VsKNum a55_14_VsKNum o55_14_VsKNum mixed (by constructor) (by kernel_rfl) (by kernel_rfl) ?_); intro K hK) | with_reducible refine Rr.go [] (by constructor) ?_ | (with_reducible refine guardP_split (fun hg => ?_) fun hg => ?_) <;> (try simp only [hg]) <;> (try simp only [hgW] at hg)) <;> simp -implicitDefEqProofs only [RJ.cells, u8, he1, hn, go_sem, simprocAttr] <;> try (simp (disch := omega) only [wrW]; try simp -implicitDefEqProofs only [RJ.cells, u8, he1, hn, go_sem, simprocAttr]))
     | with_reducible refine And.intro (by first | omega | (simp only [hgW]; omega)) ?_
     | (exfalso; omega)
  rw [isP_two] at hR
  have hS := isP_le b i3 [43] hi3
  have cS := KW i3 43 hi3
  have hSf := isP_false b i3 [43]
  generalize isP b i3 [43] = S at *
  obtain ⟨s1, s2⟩ := S
  simp only at hS cS hSf hR
  have hM := isP_le b i3 [45] hi3
  have cM := KW i3 45 hi3
  generalize isP b i3 [45] = M at *
  obtain ⟨m1, m2⟩ := M
  simp only at hM cM hR
  obtain ⟨i4, hi4, hR, hsg⟩ : ∃ i4, i4 ≤ b.length ∧ digP b i4 = (ok, e) ∧ ((s1 = true ∧ i4 = s2) ∨ (s1 = false ∧ s2 = i3 ∧ i4 = m2)) := by
    cases s1 with
    | true => simp only [if_true] at hR; exact ⟨s2, by omega, hR, .inl ⟨rfl, rfl⟩⟩
    | false => simp only [Bool.false_eq_true, if_false] at hR; exact ⟨m2, by omega, hR, .inr ⟨rfl, hSf rfl, rfl⟩⟩
  have hE := digP_le b i4 hi4
  have cE := KD i4 hi4
  unfold digC at cE
  have hEe : digP b i4 = (decide (i4 < digAt b i4), digAt b i4) := rfl
  rw [hEe] at hE hR
  simp only at hE cE
  obtain ⟨rfl, rfl⟩ := Prod.mk.inj hR
  clear hEe
  generalize digAt b i4 = f2 at *
  rcases hcs with ⟨rfl, rfl⟩ | ⟨rfl, rfl, rfl, rfl⟩
  all_goals
    by_cases hf : i4 < f2
    · rw [decide_eq_true hf, if_pos rfl]
      rcases hsg with ⟨rfl, rfl⟩ | ⟨rfl, rfl, rfl⟩
      all_goals
        repeat' first
         | with_reducible refine Rl.go (by constructor <;> decide) ?_
         | ((with_reducible first | refine hK _ ?_ | refine hK.1 ?_ | refine hK.2 ?_); clear hK K)
         | ((with_reducible refine condS hK (fun hg => ?_) fun hg => ?_) <;> clear hK K <;> (try simp only [hgW] at hg) <;> try (exfalso; omega))
         | ((with_reducible refine callE_B3 cQ ?_); simp -implicitDefEqProofs only [eqOk_true, RJ.cells, u8, he1, hn, go_sem, simprocAttr]; (skip; try (simp (disch := omega) only [wrW]; try simp -implicitDefEqProofs only [RJ.cells, u8, he1, hn, go_sem, simprocAttr])); fail_if_success (with_reducible refine eqOk_mk ?_))
         | ((with_reducible refine callE_B3 cU ?_); simp -implicitDefEqProofs only [eqOk_true, RJ.cells, u8, he1, hn, go_sem, simprocAttr]; (skip; try (simp (disch := omega) only [wrW]; try simp -implicitDefEqProofs only [RJ.cells, u8, he1, hn, go_sem, simprocAttr])); fail_if_success (with_reducible refine eqOk_mk ?_))
         | ((with_reducible refine callE_B3 cS ?_); simp -implicitDefEqProofs only [eqOk_true, RJ.cells, u8, he1, hn, go_sem, simprocAttr]; (skip; try (simp (disch := omega) only [wrW]; try simp -implicitDefEqProofs only [RJ.cells, u8, he1, hn, go_sem, simprocAttr])); fail_if_success (with_reducible refine eqOk_mk ?_))
         | ((with_reducible refine callE_B3 cM ?_); simp -implicitDefEqProofs only [eqOk_true, RJ.cells, u8, he1, hn, go_sem, simprocAttr]; (skip; try (simp (disch := omega) only [wrW]; try simp -implicitDefEqProofs only [RJ.cells, u8, he1, hn, go_sem, simprocAttr])); fail_if_success (with_reducible refine eqOk_mk ?_))
         | ((with_reducible refine callE_B3 cE ?_); simp -implicitDefEqProofs only [eqOk_true, RJ.cells, u8, he1, hn, go_sem, simprocAttr]; (skip; try (simp (disch := omega) only [wrW]; try simp -implicitDefEqProofs only [RJ.cells, u8, he1, hn, go_sem, simprocAttr])); fail_if_success (with_reducible refine eqOk_mk ?_))
         | ((first | ((with_reducible first | refine Rk.go k55_VsKNum (by constructor) ?_ | refine Rd.go 14 k55_VsKNum a55_14_VsKNum o55_14_VsKNum mixed (by constructor) (by kernel_rfl) (by kernel_rfl) ?_); intro K hK) | with_reducible refine Rr.go [] (by constructor) ?_ | (with_reducible refine guardP_split (fun hg => ?_) fun hg => ?_) <;> (try simp only [hg]) <;> (try simp only [hgW] at hg)) <;> simp -implicitDefEqProofs only [RJ.cells, u8, he1, hn, go_sem, simprocAttr] <;> try (simp (disch := omega) only [wrW]; try simp -implicitDefEqProofs only [RJ.cells, u8, he1, hn, go_sem, simprocAttr]))
         | with_reducible refine And.intro (by first | omega | (simp only [hgW]; omega)) ?_
         | (exfalso; omega)
    · have hfe : f2 = i4 := by omega
      subst hfe
      rw [decide_eq_false hf, if_neg (by decide)]
      rcases hsg with ⟨rfl, rfl⟩ | ⟨rfl, rfl, rfl⟩
      all_goals
        repeat' first
         | with_reducible refine Rl.go (by constructor <;> decide) ?_
         | ((with_reducible first | refine hK _ ?_ | refine hK.1 ?_ | refine hK.2 ?_); clear hK K)
         | ((with_reducible refine condS hK (fun hg => ?_) fun hg => ?_) <;> clear hK K <;> (try simp only [hgW] at hg) <;> try (exfalso; omega))
         | ((with_reducible refine callE_B3 cQ ?_); simp -implicitDefEqProofs only [eqOk_true, RJ.cells, u8, he1, hn, go_sem, simprocAttr]; (skip; try (simp (disch := omega) only [wrW]; try simp -implicitDefEqProofs only [RJ.cells, u8, he1, hn, go_sem, simprocAttr])); fail_if_success (with_reducible refine eqOk_mk ?_))
         | ((with_reducible refine callE_B3 cU ?_); simp -implicitDefEqProofs only [eqOk_true, RJ.cells, u8, he1, hn, go_sem, simprocAttr]; (skip; try (simp (disch := omega) only [wrW]; try simp -implicitDefEqProofs only [RJ.cells, u8, he1, hn, go_sem, simprocAttr])); fail_if_success (with_reducible refine eqOk_mk ?_))
         | ((with_reducible refine callE_B3 cS ?_); simp -implicitDefEqProofs only [eqOk_true, RJ.cells, u8, he1, hn, go_sem, simprocAttr]; (skip; try (simp (disch := omega) only [wrW]; try simp -implicitDefEqProofs only [RJ.cells, u8, he1, hn, go_sem, simprocAttr])); fail_if_success (with_reducible refine eqOk_mk ?_))
         | ((with_reducible refine callE_B3 cM ?_); simp -implicitDefEqProofs only [eqOk_true, RJ.cells, u8, he1, hn, go_sem, simprocAttr]; (skip; try (simp (disch := omega) only [wrW]; try simp -implicitDefEqProofs only [RJ.cells, u8, he1, hn, go_sem, simprocAttr])); fail_if_success (with_reducible refine eqOk_mk ?_))
         | ((with_reducible refine callE_B3 cE ?_); simp -implicitDefEqProofs only [eqOk_true, RJ.cells, u8, he1, hn, go_sem, simprocAttr]; (skip; try (simp (disch := omega) only [wrW]; try simp -implicitDefEqProofs only [RJ.cells, u8, he1, hn, go_sem, simprocAttr])); fail_if_success (with_reducible refine eqOk_mk ?_))
         | ((first | ((with_reducible first | refine Rk.go k55_VsKNum (by constructor) ?_ | refine Rd.go 14 k55_VsKNum a55_14_VsKNum o55_14_VsKNum mixed (by constructor) (by kernel_rfl) (by kernel_rfl) ?_); intro K hK) | with_reducible refine Rr.go [] (by constructor) ?_ | (with_reducible refine guardP_split (fun hg => ?_) fun hg => ?_) <;> (try simp only [hg]) <;> (try simp only [hgW] at hg)) <;> simp -implicitDefEqProofs only [RJ.cells, u8, he1, hn, go_sem, simprocAttr] <;> try (simp (disch := omega) only [wrW]; try simp -implicitDefEqProofs only [RJ.cells, u8, he1, hn, go_sem, simprocAttr]))
         | with_reducible refine And.intro (by first | omega | (simp only [hgW]; omega)) ?_
         | (exfalso; omega)
theorem f55_ok (s : RJ) (nb : Bool) (h : OkJ s) : CallsB Tryd.prog 55 [.ptr 1000000 0] [s.cells nb (4, 0)] (.tup [.str (numberC s).1.1, .bool (numberC s).1.2]) [(numberC s).2.cells nb (3, 0)] := by
  obtain ⟨b, at_, deep, nodes, err⟩ := s
  obtain ⟨g1, g2, g3⟩ := h
  unfold numberC
  simp only at g1 g2 g3 ⊢
  have OK := fun (i : Nat) (hi : i ≤ b.length) => (⟨hi, g2, g3⟩ : OkJ ⟨b, i, deep, nodes, err⟩)
  have KW := fun (i : Nat) (c : UInt8) (hi : i ≤ b.length) => by
    have := f54_ok ⟨b, i, deep, nodes, err⟩ nb (OK i hi) [c] (by simp)
    unfold wordC at this
    rw [wordP_one] at this
    exact this
  have KD := fun (i : Nat) (hi : i ≤ b.length) => f69_ok ⟨b, i, deep, nodes, err⟩ nb (OK i hi)
  have hle := numP_le b at_ g1
  obtain ⟨R, hR⟩ : ∃ R, numP b at_ = R := ⟨_, rfl⟩
  rw [hR] at hle ⊢
  obtain ⟨ok, e⟩ := R
  simp only at hle ⊢
  have he1 : (b.take e).drop at_ = (b.drop at_).take (e - at_) := List.drop_take
  unfold numP at hR
  have hA := isP_le b at_ [45] g1
  have cA := KW at_ 45 g1
  generalize isP b at_ [45] = A at *
  obtain ⟨a1, a2⟩ := A
  simp only at hA cA hR
  have cC := f51_ok ⟨b, a2, deep, nodes, err⟩ nb (OK a2 hA.2) 48
  have hD := digP_le b a2 hA.2
  have cD := KD a2 hA.2
  unfold digC at cD
  have hDe : digP b a2 = (decide (a2 < digAt b a2), digAt b a2) := rfl
  rw [hDe] at hD hR
  simp only at hD cD hR
  have hic : a2 < b.length → isC ⟨b, a2, deep, nodes, err⟩ 48 = decide (b.getD a2 default = 48) := fun ha2 => by
    unfold isC
    rw [decide_eq_true (show (RJ.mk b a2 deep nodes err).at_ < (RJ.mk b a2 deep nodes err).b.length from ha2), Bool.true_and]
  generalize digAt b a2 = d2 at *
  generalize hyv : isC ⟨b, a2, deep, nodes, err⟩ 48 = y at *
  refine CallsB.intro Tryd.func55 rfl (by show 1 ≤ 58; decide) ?_
  rintro X hX
  have hn : X.n = 58 := hX
  unfold Tryd.f55
  dsimp only
  rw [entryB11]
  repeat' first
   | (with_reducible refine markD 5 ?_)
   | with_reducible refine Rl.go (by constructor <;> decide) ?_
   | ((with_reducible first | refine hK _ ?_ | refine hK.1 ?_ | refine hK.2 ?_); clear hK K)
   | ((with_reducible refine condS hK (fun hg => ?_) fun hg => ?_) <;> clear hK K <;> (try simp only [hgW] at hg) <;> try (exfalso; omega))
   | ((with_reducible refine callE_B3 cA ?_); simp -implicitDefEqProofs only [eqOk_true, RJ.cells, u8, hn, go_sem, simprocAttr]; (skip; try (simp (disch := omega) only [wrW]; try simp -implicitDefEqProofs only [RJ.cells, u8, hn, go_sem, simprocAttr])); fail_if_success (with_reducible refine eqOk_mk ?_))
   | ((with_reducible refine callE_B3 cC ?_); simp -implicitDefEqProofs only [eqOk_true, RJ.cells, u8, hn, go_sem, simprocAttr]; (skip; try (simp (disch := omega) only [wrW]; try simp -implicitDefEqProofs only [RJ.cells, u8, hn, go_sem, simprocAttr])); fail_if_success (with_reducible refine eqOk_mk ?_))
   | ((with_reducible refine callE_B3 cD ?_); simp -implicitDefEqProofs only [eqOk_true, RJ.cells, u8, hn, go_sem, simprocAttr]; (skip; try (simp (disch := omega) only [wrW]; try simp -implicitDefEqProofs only [RJ.cells, u8, hn, go_sem, simprocAttr])); fail_if_success (with_reducible refine eqOk_mk ?_))
   | ((first | ((with_reducible first | refine Rk.go k55_VsKNum (by constructor) ?_ | refine Rd.go 14 k55_VsKNum a55_14_VsKNum o55_14_VsKNum mixed (by constructor) (by kernel_rfl) (by kernel_rfl) ?_); intro K hK) | with_reducible refine Rr.go [] (by constructor) ?_ | (with_reducible refine guardP_split (fun hg => ?_) fun hg => ?_) <;> (try simp only [hg]) <;> (try simp only [hgW] at hg)) <;> simp -implicitDefEqProofs only [RJ.cells, u8, hn, go_sem, simprocAttr] <;> try (simp (disch := omega) only [wrW]; try simp -implicitDefEqProofs only [RJ.cells, u8, hn, go_sem, simprocAttr]))
   | with_reducible refine And.intro (by first | omega | (simp only [hgW]; omega)) ?_
   | (exfalso; omega)
  unfold MarkD
  obtain ⟨ok1, hok1⟩ : ∃ ok1, (decide (a2 < d2) && (decide (d2 = a2 + 1) || decide (b.getD a2 default ≠ 48))) = ok1 := ⟨_, rfl⟩
  rw [hok1] at hR
  cases ok1 with
  | false =>
    unfold numP2 at hR
    simp only [Bool.false_eq_true, if_false] at hR
    unfold numP4 at hR
    simp only [Bool.false_eq_true, if_false] at hR
    obtain ⟨rfl, rfl⟩ := Prod.mk.inj hR
    rw [if_neg (by decide)]
    have hd : d2 = a2 ∨ (a2 < d2 ∧ d2 ≠ a2 + 1 ∧ y = true) := by
      by_cases h : a2 < d2
      · rw [decide_eq_true h, Bool.true_and, Bool.or_eq_false_iff] at hok1
        refine .inr ⟨h, by simpa using hok1.1, ?_⟩
        rw [hic (by omega)]
        simpa using hok1.2
      · exact .inl (by omega)
    rcases hd with rfl | ⟨h1, h2, rfl⟩
    · cases y with
      | false =>
        repeat' first
         | with_reducible refine Rl.go (by constructor <;> decide) ?_
         | ((with_reducible first | refine hK _ ?_ | refine hK.1 ?_ | refine hK.2 ?_); clear hK K)
         | ((with_reducible refine condS hK (fun hg => ?_) fun hg => ?_) <;> clear hK K <;> (try simp only [hgW] at hg) <;> try (exfalso; omega))
         | ((first | ((with_reducible first | refine Rk.go k55_VsKNum (by constructor) ?_ | refine Rd.go 14 k55_VsKNum a55_14_VsKNum o55_14_VsKNum mixed (by constructor) (by kernel_rfl) (by kernel_rfl) ?_); intro K hK) | with_reducible refine Rr.go [] (by constructor) ?_ | (with_reducible refine guardP_split (fun hg => ?_) fun hg => ?_) <;> (try simp only [hg]) <;> (try simp only [hgW] at hg)) <;> simp -implicitDefEqProofs only [RJ.cells, u8, hn, go_sem, simprocAttr] <;> try (simp (disch := omega) only [wrW]; try simp -implicitDefEqProofs only [RJ.cells, u8, hn, go_sem, simprocAttr]))
         | with_reducible refine And.intro (by first | omega | (simp only [hgW]; omega)) ?_
         | (exfalso; omega)
      | true =>
        repeat' first
         | with_reducible refine Rl.go (by constructor <;> decide) ?_
         | ((with_reducible first | refine hK _ ?_ | refine hK.1 ?_ | refine hK.2 ?_); clear hK K)
         | ((with_reducible refine condS hK (fun hg => ?_) fun hg => ?_) <;> clear hK K <;> (try simp only [hgW] at hg) <;> try (exfalso; omega))
         | ((first | ((with_reducible first | refine Rk.go k55_VsKNum (by constructor) ?_ | refine Rd.go 14 k55_VsKNum a55_14_VsKNum o55_14_VsKNum mixed (by constructor) (by kernel_rfl) (by kernel_rfl) ?_); intro K hK) | with_reducible refine Rr.go [] (by constructor) ?_ | (with_reducible refine guardP_split (fun hg => ?_) fun hg => ?_) <;> (try simp only [hg]) <;> (try simp only [hgW] at hg)) <;> simp -implicitDefEqProofs only [RJ.cells, u8, hn, go_sem, simprocAttr] <;> try (simp (disch := omega) only [wrW]; try simp -implicitDefEqProofs only [RJ.cells, u8, hn, go_sem, simprocAttr]))
         | with_reducible refine And.intro (by first | omega | (simp only [hgW]; omega)) ?_
         | (exfalso; omega)
    · skip
      repeat' first
       | with_reducible refine Rl.go (by constructor <;> decide) ?_
       | ((with_reducible first | refine hK _ ?_ | refine hK.1 ?_ | refine hK.2 ?_); clear hK K)
       | ((with_reducible refine condS hK (fun hg => ?_) fun hg => ?_) <;> clear hK K <;> (try simp only [hgW] at hg) <;> try (exfalso; omega))
       | ((first | ((with_reducible first | refine Rk.go k55_VsKNum (by constructor) ?_ | refine Rd.go 14 k55_VsKNum a55_14_VsKNum o55_14_VsKNum mixed (by constructor) (by kernel_rfl) (by kernel_rfl) ?_); intro K hK) | with_reducible refine Rr.go [] (by constructor) ?_ | (with_reducible refine guardP_split (fun hg => ?_) fun hg => ?_) <;> (try simp only [hg]) <;> (try simp only [hgW] at hg)) <;> simp -implicitDefEqProofs only [RJ.cells, u8, hn, go_sem, simprocAttr] <;> try (simp (disch := omega) only [wrW]; try simp -implicitDefEqProofs only [RJ.cells, u8, hn, go_sem, simprocAttr]))
       | with_reducible refine And.intro (by first | omega | (simp only [hgW]; omega)) ?_
       | (exfalso; omega)
  | true =>
    have hd : a2 < d2 ∧ (y = true → d2 = a2 + 1) := by
      rw [Bool.and_eq_true, Bool.or_eq_true] at hok1
      have h : a2 < d2 := by simpa using hok1.1
      refine ⟨h, fun hy => ?_⟩
      rw [hic (by omega)] at hy
      rcases hok1.2 with h' | h'
      · simpa using h'
      · simp at hy h'; exact (h' hy).elim
    clear hok1 hic hyv
    refine AWP.join [0, 2, 3, 4] [] (St.mk (lk [(0, .ptr 1000000 0), (2, .str []), (3, .bool false), (4, .int .i64 (at_ : Int))]) (lkB [(1000000, (RJ.mk b d2 deep nodes err).cells nb (4, 0))]) (hasS []) (hasS []) (hasN []) (lkR [])) ?_ ?_
    · obtain ⟨h1, h2⟩ := hd
      cases y with
      | false =>
        repeat' first
         | with_reducible refine Rl.go (by constructor <;> decide) ?_
         | ((with_reducible first | refine hK _ ?_ | refine hK.1 ?_ | refine hK.2 ?_); clear hK K)
         | ((with_reducible refine condS hK (fun hg => ?_) fun hg => ?_) <;> clear hK K <;> (try simp only [hgW] at hg) <;> try (exfalso; omega))
         | ((first | ((with_reducible first | refine Rk.go k55_VsKNum (by constructor) ?_ | refine Rd.go 14 k55_VsKNum a55_14_VsKNum o55_14_VsKNum mixed (by constructor) (by kernel_rfl) (by kernel_rfl) ?_); intro K hK) | with_reducible refine Rr.go [] (by constructor) ?_ | (with_reducible refine guardP_split (fun hg => ?_) fun hg => ?_) <;> (try simp only [hg]) <;> (try simp only [hgW] at hg)) <;> simp -implicitDefEqProofs only [RJ.cells, u8, hn, go_sem, simprocAttr] <;> try (simp (disch := omega) only [wrW]; try simp -implicitDefEqProofs only [RJ.cells, u8, hn, go_sem, simprocAttr]))
         | with_reducible refine And.intro (by first | omega | (simp only [hgW]; omega)) ?_
         | (exfalso; omega)
        simp -implicitDefEqProofs only [RJ.cells, hn, go_sem, simprocAttr]
        try rfl
      | true =>
        have h3 := h2 rfl
        repeat' first
         | with_reducible refine Rl.go (by constructor <;> decide) ?_
         | ((with_reducible first | refine hK _ ?_ | refine hK.1 ?_ | refine hK.2 ?_); clear hK K)
         | ((with_reducible refine condS hK (fun hg => ?_) fun hg => ?_) <;> clear hK K <;> (try simp only [hgW] at hg) <;> try (exfalso; omega))
         | ((first | ((with_reducible first | refine Rk.go k55_VsKNum (by constructor) ?_ | refine Rd.go 14 k55_VsKNum a55_14_VsKNum o55_14_VsKNum mixed (by constructor) (by kernel_rfl) (by kernel_rfl) ?_); intro K hK) | with_reducible refine Rr.go [] (by constructor) ?_ | (with_reducible refine guardP_split (fun hg => ?_) fun hg => ?_) <;> (try simp only [hg]) <;> (try simp only [hgW] at hg)) <;> simp -implicitDefEqProofs only [RJ.cells, u8, hn, go_sem, simprocAttr] <;> try (simp (disch := omega) only [wrW]; try simp -implicitDefEqProofs only [RJ.cells, u8, hn, go_sem, simprocAttr]))
         | with_reducible refine And.intro (by first | omega | (simp only [hgW]; omega)) ?_
         | (exfalso; omega)
        simp -implicitDefEqProofs only [RJ.cells, hn, go_sem, simprocAttr]
        try rfl
    unfold numP2 at hR
    simp only [if_true] at hR
    have hP := isP_le b d2 [46] (by omega)
    have cP := KW d2 46 (by omega)
    have hPf := isP_false b d2 [46]
    generalize isP b d2 [46] = P at *
    obtain ⟨p1, p2⟩ := P
    simp only at hP cP hPf hR
    have hG := digP_le b p2 (by omega)
    have cG := KD p2 (by omega)
    unfold digC at cG
    have hGe : digP b p2 = (decide (p2 < digAt b p2), digAt b p2) := rfl
    rw [hGe] at hG hR
    simp only at hG cG hR
    generalize digAt b p2 = h2 at *
    have hfr : (p1 = true ∧ h2 = p2 ∧ ok = false ∧ e = h2) ∨ ∃ i2, numP4 b true i2 = (ok, e) ∧ i2 ≤ b.length ∧ ((p1 = false ∧ i2 = p2) ∨ (p1 = true ∧ p2 < h2 ∧ i2 = h2)) := by
      cases p1 with
      | false =>
        simp only [Bool.false_eq_true, if_false] at hR
        exact .inr ⟨p2, hR, by omega, .inl ⟨rfl, rfl⟩⟩
      | true =>
        simp only [if_true] at hR
        by_cases hg : p2 < h2
        · rw [decide_eq_true hg] at hR
          exact .inr ⟨h2, hR, by omega, .inr ⟨rfl, hg, rfl⟩⟩
        · rw [decide_eq_false hg] at hR
          unfold numP4 at hR
          simp only [Bool.false_eq_true, if_false] at hR
          obtain ⟨rfl, rfl⟩ := Prod.mk.inj hR
          exact .inl ⟨rfl, by omega, rfl, rfl⟩
    clear hR
    rcases hfr with ⟨rfl, rfl, rfl, rfl⟩ | ⟨i2, hR, hi2, hcs⟩
    · rw [if_neg (by decide)]
      repeat' first
       | with_reducible refine Rl.go (by constructor <;> decide) ?_
       | ((with_reducible first | refine hK _ ?_ | refine hK.1 ?_ | refine hK.2 ?_); clear hK K)
       | ((with_reducible refine condS hK (fun hg => ?_) fun hg => ?_) <;> clear hK K <;> (try simp only [hgW] at hg) <;> try (exfalso; omega))
       | ((with_reducible refine callE_B3 cP ?_); simp -implicitDefEqProofs only [eqOk_true, RJ.cells, u8, hn, go_sem, simprocAttr]; (skip; try (simp (disch := omega) only [wrW]; try simp -implicitDefEqProofs only [RJ.cells, u8, hn, go_sem, simprocAttr])); fail_if_success (with_reducible refine eqOk_mk ?_))
       | ((with_reducible refine callE_B3 cG ?_); simp -implicitDefEqProofs only [eqOk_true, RJ.cells, u8, hn, go_sem, simprocAttr]; (skip; try (simp (disch := omega) only [wrW]; try simp -implicitDefEqProofs only [RJ.cells, u8, hn, go_sem, simprocAttr])); fail_if_success (with_reducible refine eqOk_mk ?_))
       | ((first | ((with_reducible first | refine Rk.go k55_VsKNum (by constructor) ?_ | refine Rd.go 14 k55_VsKNum a55_14_VsKNum o55_14_VsKNum mixed (by constructor) (by kernel_rfl) (by kernel_rfl) ?_); intro K hK) | with_reducible refine Rr.go [] (by constructor) ?_ | (with_reducible refine guardP_split (fun hg => ?_) fun hg => ?_) <;> (try simp only [hg]) <;> (try simp only [hgW] at hg)) <;> simp -implicitDefEqProofs only [RJ.cells, u8, hn, go_sem, simprocAttr] <;> try (simp (disch := omega) only [wrW]; try simp -implicitDefEqProofs only [RJ.cells, u8, hn, go_sem, simprocAttr]))
       | with_reducible refine And.intro (by first | omega | (simp only [hgW]; omega)) ?_
       | (exfalso; omega)
    refine AWP.join [0, 2, 3, 4] [] (St.mk (lk [(0, .ptr 1000000 0), (2, .str []), (3, .bool false), (4, .int .i64 (at_ : Int))]) (lkB [(1000000, (RJ.mk b i2 deep nodes err).cells nb (4, 0))]) (hasS []) (hasS []) (hasN []) (lkR [])) ?_ ?_
    · rcases hcs with ⟨rfl, rfl⟩ | ⟨rfl, hg, rfl⟩
      · skip
        repeat' first
         | with_reducible refine Rl.go (by constructor <;> decide) ?_
         | ((with_reducible first | refine hK _ ?_ | refine hK.1 ?_ | refine hK.2 ?_); clear hK K)
         | ((with_reducible refine condS hK (fun hg => ?_) fun hg => ?_) <;> clear hK K <;> (try simp only [hgW] at hg) <;> try (exfalso; omega))
         | ((with_reducible refine callE_B3 cP ?_); simp -implicitDefEqProofs only [eqOk_true, RJ.cells, u8, hn, go_sem, simprocAttr]; (skip; try (simp (disch := omega) only [wrW]; try simp -implicitDefEqProofs only [RJ.cells, u8, hn, go_sem, simprocAttr])); fail_if_success (with_reducible refine eqOk_mk ?_))
         | ((first | ((with_reducible first | refine Rk.go k55_VsKNum (by constructor) ?_ | refine Rd.go 14 k55_VsKNum a55_14_VsKNum o55_14_VsKNum mixed (by constructor) (by kernel_rfl) (by kernel_rfl) ?_); intro K hK) | with_reducible refine Rr.go [] (by constructor) ?_ | (with_reducible refine guardP_split (fun hg => ?_) fun hg => ?_) <;> (try simp only [hg]) <;> (try simp only [hgW] at hg)) <;> simp -implicitDefEqProofs only [RJ.cells, u8, hn, go_sem, simprocAttr] <;> try (simp (disch := omega) only [wrW]; try simp -implicitDefEqProofs only [RJ.cells, u8, hn, go_sem, simprocAttr]))
         | with_reducible refine And.intro (by first | omega | (simp only [hgW]; omega)) ?_
         | (exfalso; omega)
        simp -implicitDefEqProofs only [RJ.cells, hn, go_sem, simprocAttr]
        try rfl
      · skip
        repeat' first
         | with_reducible refine Rl.go (by constructor <;> decide) ?_
         | ((with_reducible first | refine hK _ ?_ | refine hK.1 ?_ | refine hK.2 ?_); clear hK K)
         | ((with_reducible refine condS hK (fun hg => ?_) fun hg => ?_) <;> clear hK K <;> (try simp only [hgW] at hg) <;> try (exfalso; omega))
         | ((with_reducible refine callE_B3 cP ?_); simp -implicitDefEqProofs only [eqOk_true, RJ.cells, u8, hn, go_sem, simprocAttr]; (skip; try (simp (disch := omega) only [wrW]; try simp -implicitDefEqProofs only [RJ.cells, u8, hn, go_sem, simprocAttr])); fail_if_success (with_reducible refine eqOk_mk ?_))
         | ((with_reducible refine callE_B3 cG ?_); simp -implicitDefEqProofs only [eqOk_true, RJ.cells, u8, hn, go_sem, simprocAttr]; (skip; try (simp (disch := omega) only [wrW]; try simp -implicitDefEqProofs only [RJ.cells, u8, hn, go_sem, simprocAttr])); fail_if_success (with_reducible refine eqOk_mk ?_))
         | ((first | ((with_reducible first | refine Rk.go k55_VsKNum (by constructor) ?_ | refine Rd.go 14 k55_VsKNum a55_14_VsKNum o55_14_VsKNum mixed (by constructor) (by kernel_rfl) (by kernel_rfl) ?_); intro K hK) | with_reducible refine Rr.go [] (by constructor) ?_ | (with_reducible refine guardP_split (fun hg => ?_) fun hg => ?_) <;> (try simp only [hg]) <;> (try simp only [hgW] at hg)) <;> simp -implicitDefEqProofs only [RJ.cells, u8, hn, go_sem, simprocAttr] <;> try (simp (disch := omega) only [wrW]; try simp -implicitDefEqProofs only [RJ.cells, u8, hn, go_sem, simprocAttr]))
         | with_reducible refine And.intro (by first | omega | (simp only [hgW]; omega)) ?_
         | (exfalso; omega)
        simp -implicitDefEqProofs only [RJ.cells, hn, go_sem, simprocAttr]
        try rfl
    exact f55_tail b nb at_ deep err nodes g2 g3 i2 hi2 (by omega) ok e hle hR hX
end Go.Proofs.YtfemncfhiihckaaDoor
