/- What a number comes to. -/
import Derived.Test.YtfemncfhiihckaaDoorVsJNum
open Go Go.VS
namespace Go.Proofs.YtfemncfhiihckaaDoor
set_option linter.unusedVariables false
set_option linter.unusedSimpArgs false
set_option maxRecDepth 20000
set_option maxHeartbeats 4000000
/-- The same on places alone. -/
def isP (b : List UInt8) (i : Nat) (l : List UInt8) : Bool × Nat := if i < b.length ∧ b.getD i default ∈ l then (true, i + 1) else (false, i)
theorem isS_P (s : RJ) (l : List UInt8) : isS s l = ((isP s.b s.at_ l).1, { s with at_ := (isP s.b s.at_ l).2 }) := by
  unfold isS isP
  split <;> rfl
theorem isP_le (b : List UInt8) (i : Nat) (l : List UInt8) (h : i ≤ b.length) : i ≤ (isP b i l).2 ∧ (isP b i l).2 ≤ b.length := by
  unfold isP
  split
  · simp only; omega
  · exact ⟨Nat.le_refl _, h⟩
def digP (b : List UInt8) (i : Nat) : Bool × Nat := (decide (i < digAt b i), digAt b i)
theorem digP_le (b : List UInt8) (i : Nat) (h : i ≤ b.length) : i ≤ (digP b i).2 ∧ (digP b i).2 ≤ b.length := ⟨digAt_ge b i, digAt_le b i h⟩
/-- Is it a number, and where does it end? -/
def numP4 (b : List UInt8) (ok : Bool) (i : Nat) : Bool × Nat :=
  if (if ok then isP b i [101, 69] else (false, i)).1 then digP b (isP b (isP b i [101, 69]).2 [43, 45]).2 else (ok, (if ok then isP b i [101, 69] else (false, i)).2)
def numP2 (b : List UInt8) (ok : Bool) (i : Nat) : Bool × Nat :=
  if ok then (if (isP b i [46]).1 then numP4 b (digP b (isP b i [46]).2).1 (digP b (isP b i [46]).2).2 else numP4 b true (isP b i [46]).2) else numP4 b false i
def numP (b : List UInt8) (i : Nat) : Bool × Nat :=
  numP2 b ((digP b (isP b i [45]).2).1 && (decide ((digP b (isP b i [45]).2).2 = (isP b i [45]).2 + 1) || decide (b.getD (isP b i [45]).2 default ≠ 48))) (digP b (isP b i [45]).2).2
theorem numP4_le (b : List UInt8) (ok : Bool) (i : Nat) (h : i ≤ b.length) : i ≤ (numP4 b ok i).2 ∧ (numP4 b ok i).2 ≤ b.length := by
  have h1 := isP_le b i [101, 69] h
  have h2 := isP_le b _ [43, 45] h1.2
  have h3 := digP_le b _ h2.2
  unfold numP4
  cases ok
  · simp only [Bool.false_eq_true, if_false]; omega
  · simp only [if_true]
    split
    · omega
    · exact h1
theorem numP2_le (b : List UInt8) (ok : Bool) (i : Nat) (h : i ≤ b.length) : i ≤ (numP2 b ok i).2 ∧ (numP2 b ok i).2 ≤ b.length := by
  have h1 := isP_le b i [46] h
  have h2 := digP_le b _ h1.2
  unfold numP2
  split
  · split
    · have := numP4_le b (digP b (isP b i [46]).2).1 _ h2.2; omega
    · have := numP4_le b true _ h1.2; omega
  · exact numP4_le b false i h
theorem numP_le (b : List UInt8) (i : Nat) (h : i ≤ b.length) : i ≤ (numP b i).2 ∧ (numP b i).2 ≤ b.length := by
  have h1 := isP_le b i [45] h
  have h2 := digP_le b _ h1.2
  have := numP2_le b ((digP b (isP b i [45]).2).1 && (decide ((digP b (isP b i [45]).2).2 = (isP b i [45]).2 + 1) || decide (b.getD (isP b i [45]).2 default ≠ 48))) _ h2.2
  unfold numP
  omega
def numberS (s : RJ) : List UInt8 × RJ :=
  ((s.b.drop s.at_).take ((numP s.b s.at_).2 - s.at_), if (numP s.b s.at_).1 then { s with at_ := (numP s.b s.at_).2 } else ({ s with at_ := (numP s.b s.at_).2 } : RJ).fail 11)
theorem ck64 : callOk Tryd.prog 64 = true := by kernel_rfl
theorem ck65 : callOk Tryd.prog 65 = true := by kernel_rfl
def k45_VsJNum2 : List Nat := [0,1,2,3,4,5,6,7,45,52,58]
def a45_14_VsJNum2 : List Nat := [0,1,3,7,0,0,32,96,224,511,1023,2047]
def o45_14_VsJNum2 : List Nat := [0,1,2,3,4,5,6,7,8,9,10,11]
attribute [go_sem] k45_VsJNum2 a45_14_VsJNum2 o45_14_VsJNum2
theorem f45_ok (s : RJ) (nb : Bool) (ha : s.b.length ≤ 100000) (hat : s.at_ < s.b.length) (hn0 : s.b.getD s.at_ default = 45 ∨ digit (s.b.getD s.at_ default) = true) : CallsB Tryd.prog 45 [.ptr 1000000 0] [s.cells nb (4, 0)] (.str (numberS s).1) [(numberS s).2.cells nb (3, 0)] := by
  obtain ⟨b, at_, deep, nodes, err⟩ := s
  unfold numberS
  simp only at ha hat hn0 ⊢
  have K65 := fun (i : Nat) (l : List UInt8) (hi : i ≤ b.length) (hl : l.length ≤ 10) => by
    have := f65_ok ⟨b, i, deep, nodes, err⟩ nb ha hi l hl
    rw [isS_P] at this
    exact this
  have K64 := fun (i : Nat) (hi : i ≤ b.length) => f64_ok ⟨b, i, deep, nodes, err⟩ nb ha hi
  have K33 := fun (i : Nat) => f33_ok ⟨b, i, deep, nodes, err⟩ nb 11
  have hle := numP_le b at_ (by omega)
  obtain ⟨R, hR⟩ : ∃ R, numP b at_ = R := ⟨_, rfl⟩
  rw [hR] at hle ⊢
  obtain ⟨ok, e⟩ := R
  simp only at hle ⊢
  have he1 : (b.take e).drop at_ = (b.drop at_).take (e - at_) := List.drop_take
  unfold numP at hR
  have hA := isP_le b at_ [45] (by omega)
  have cA := K65 at_ [45] (by omega) (by decide)
  generalize isP b at_ [45] = A at *
  obtain ⟨a1, a2⟩ := A
  simp only at hA cA hR
  have hD := digP_le b a2 hA.2
  have cD := K64 a2 hA.2
  unfold digS at cD
  have hDe : digP b a2 = (decide (a2 < digAt b a2), digAt b a2) := rfl
  rw [hDe] at hD hR
  simp only at hD cD hR
  generalize digAt b a2 = d2 at *
  have ea : (a2 : Int) + 1 = ((a2 + 1 : Nat) : Int) := by omega
  by_cases hd : a2 < d2
  · rw [decide_eq_true hd] at cD hR
    obtain ⟨x, hx⟩ : ∃ x, b.getD a2 default = x := ⟨_, rfl⟩
    rw [hx] at hR
    have hx48 : x = 48 ↔ (x.toNat : Int) = 48 := ⟨fun h => by rw [h]; rfl, fun h => UInt8.toNat_inj.1 (by simp; omega)⟩
    by_cases hz : d2 = a2 + 1 ∨ x ≠ 48
    · have hok : (true && (decide (d2 = a2 + 1) || decide (x ≠ 48))) = true := by rcases hz with h | h <;> simp [h]
      rw [hok] at hR
      have hzi : d2 ≠ a2 + 1 → ¬ (x.toNat : Int) = 48 := fun h1 h2 => (hz.resolve_left h1) (hx48.2 h2)
      unfold numP2 at hR
      simp only [if_true] at hR
      have hP := isP_le b d2 [46] (by omega)
      have cP := K65 d2 [46] (by omega) (by decide)
      generalize isP b d2 [46] = P at *
      obtain ⟨p1, p2⟩ := P
      simp only at hP cP hR
      have hcases : True ∧ ((d2 : Int) == ((a2 + 1 : Nat) : Int)) = true ∨ ((d2 : Int) == ((a2 + 1 : Nat) : Int)) = false ∧ ¬ (x.toNat : Int) = 48 := by
        by_cases h : d2 = a2 + 1
        · exact .inl ⟨trivial, by rw [h]; exact beq_self_eq_true _⟩
        · exact .inr ⟨beq_eq_false_iff_ne.2 (by omega), hzi h⟩
      cases p1 with
      | false =>
        simp only [Bool.false_eq_true, if_false] at hR
        unfold numP4 at hR
        simp only [if_true] at hR
        have hQ := isP_le b p2 [101, 69] (by omega)
        have cQ := K65 p2 [101, 69] (by omega) (by decide)
        generalize isP b p2 [101, 69] = Q at *
        obtain ⟨q1, q2⟩ := Q
        simp only at hQ cQ hR
        cases q1 with
        | false =>
          simp only [Bool.false_eq_true, if_false] at hR
          cases hR
          rw [if_pos rfl]
          rcases hcases with ⟨hc1, hc2⟩ | ⟨hc1, hc2⟩
          all_goals
            refine CallsB.intro Tryd.func45 rfl (by show 1 ≤ 72; decide) ?_
            rintro X hX
            have hn : X.n = 72 := hX
            unfold Tryd.f45
            dsimp only
            rw [entryB11]
            repeat' first
             | with_reducible refine Rl.go (by constructor <;> decide) ?_
             | ((with_reducible first | refine hK _ ?_ | refine hK.1 ?_ | refine hK.2 ?_); clear hK K)
             | ((with_reducible refine condS hK (fun hg => ?_) fun hg => ?_) <;> clear hK K <;> (try simp only [hgW] at hg) <;> try (exfalso; omega))
             | ((with_reducible refine callE_B4 cA ?_); simp -implicitDefEqProofs only [eqOk_true, RJ.cells, u8, ea, he1, hx, hc1, hc2, Array.size_empty, ck64, ck65, hn, go_sem, simprocAttr]; (skip; try (simp (disch := omega) only [wrW]; try simp -implicitDefEqProofs only [RJ.cells, u8, ea, he1, hx, hc1, hc2, Array.size_empty, ck64, ck65, hn, go_sem, simprocAttr])); fail_if_success (with_reducible refine eqOk_mk ?_))
             | ((with_reducible refine callE_B4 cD ?_); simp -implicitDefEqProofs only [eqOk_true, RJ.cells, u8, ea, he1, hx, hc1, hc2, Array.size_empty, ck64, ck65, hn, go_sem, simprocAttr]; (skip; try (simp (disch := omega) only [wrW]; try simp -implicitDefEqProofs only [RJ.cells, u8, ea, he1, hx, hc1, hc2, Array.size_empty, ck64, ck65, hn, go_sem, simprocAttr])); fail_if_success (with_reducible refine eqOk_mk ?_))
             | ((with_reducible refine callE_B4 cP ?_); simp -implicitDefEqProofs only [eqOk_true, RJ.cells, u8, ea, he1, hx, hc1, hc2, Array.size_empty, ck64, ck65, hn, go_sem, simprocAttr]; (skip; try (simp (disch := omega) only [wrW]; try simp -implicitDefEqProofs only [RJ.cells, u8, ea, he1, hx, hc1, hc2, Array.size_empty, ck64, ck65, hn, go_sem, simprocAttr])); fail_if_success (with_reducible refine eqOk_mk ?_))
             | ((with_reducible refine callE_B4 cQ ?_); simp -implicitDefEqProofs only [eqOk_true, RJ.cells, u8, ea, he1, hx, hc1, hc2, Array.size_empty, ck64, ck65, hn, go_sem, simprocAttr]; (skip; try (simp (disch := omega) only [wrW]; try simp -implicitDefEqProofs only [RJ.cells, u8, ea, he1, hx, hc1, hc2, Array.size_empty, ck64, ck65, hn, go_sem, simprocAttr])); fail_if_success (with_reducible refine eqOk_mk ?_))
             | ((first | ((with_reducible first | refine Rk.go k45_VsJNum2 (by constructor) ?_ | refine Rd.go 14 k45_VsJNum2 a45_14_VsJNum2 o45_14_VsJNum2 mixed (by constructor) (by kernel_rfl) (by kernel_rfl) ?_); intro K hK) | with_reducible refine Rr.go [] (by constructor) ?_ | (with_reducible refine guardP_split (fun hg => ?_) fun hg => ?_) <;> (try simp only [hg]) <;> (try simp only [hgW] at hg)) <;> simp -implicitDefEqProofs only [RJ.cells, u8, ea, he1, hx, hc1, hc2, Array.size_empty, ck64, ck65, hn, go_sem, simprocAttr] <;> try (simp (disch := omega) only [wrW]; try simp -implicitDefEqProofs only [RJ.cells, u8, ea, he1, hx, hc1, hc2, Array.size_empty, ck64, ck65, hn, go_sem, simprocAttr]))
             | with_reducible refine And.intro (by first | omega | (simp only [hgW]; omega)) ?_
             | (exfalso; omega)
        | true =>
          simp only [if_true] at hR
          have hS := isP_le b q2 [43, 45] (by omega)
          have cS := K65 q2 [43, 45] (by omega) (by decide)
          generalize isP b q2 [43, 45] = S at *
          obtain ⟨s1, s2⟩ := S
          simp only at hS cS hR
          have hE := digP_le b s2 (by omega)
          have cE := K64 s2 (by omega)
          unfold digS at cE
          have hEe : digP b s2 = (decide (s2 < digAt b s2), digAt b s2) := rfl
          rw [hEe] at hE hR
          simp only at hE cE hR
          generalize digAt b s2 = f2 at *
          by_cases hf : s2 < f2
          · rw [decide_eq_true hf] at cE hR
            cases hR
            rw [if_pos rfl]
            rcases hcases with ⟨hc1, hc2⟩ | ⟨hc1, hc2⟩
            all_goals
              refine CallsB.intro Tryd.func45 rfl (by show 1 ≤ 72; decide) ?_
              rintro X hX
              have hn : X.n = 72 := hX
              unfold Tryd.f45
              dsimp only
              rw [entryB11]
              repeat' first
               | with_reducible refine Rl.go (by constructor <;> decide) ?_
               | ((with_reducible first | refine hK _ ?_ | refine hK.1 ?_ | refine hK.2 ?_); clear hK K)
               | ((with_reducible refine condS hK (fun hg => ?_) fun hg => ?_) <;> clear hK K <;> (try simp only [hgW] at hg) <;> try (exfalso; omega))
               | ((with_reducible refine callE_B4 cA ?_); simp -implicitDefEqProofs only [eqOk_true, RJ.cells, u8, ea, he1, hx, hc1, hc2, Array.size_empty, ck64, ck65, hn, go_sem, simprocAttr]; (skip; try (simp (disch := omega) only [wrW]; try simp -implicitDefEqProofs only [RJ.cells, u8, ea, he1, hx, hc1, hc2, Array.size_empty, ck64, ck65, hn, go_sem, simprocAttr])); fail_if_success (with_reducible refine eqOk_mk ?_))
               | ((with_reducible refine callE_B4 cD ?_); simp -implicitDefEqProofs only [eqOk_true, RJ.cells, u8, ea, he1, hx, hc1, hc2, Array.size_empty, ck64, ck65, hn, go_sem, simprocAttr]; (skip; try (simp (disch := omega) only [wrW]; try simp -implicitDefEqProofs only [RJ.cells, u8, ea, he1, hx, hc1, hc2, Array.size_empty, ck64, ck65, hn, go_sem, simprocAttr])); fail_if_success (with_reducible refine eqOk_mk ?_))
               | ((with_reducible refine callE_B4 cP ?_); simp -implicitDefEqProofs only [eqOk_true, RJ.cells, u8, ea, he1, hx, hc1, hc2, Array.size_empty, ck64, ck65, hn, go_sem, simprocAttr]; (skip; try (simp (disch := omega) only [wrW]; try simp -implicitDefEqProofs only [RJ.cells, u8, ea, he1, hx, hc1, hc2, Array.size_empty, ck64, ck65, hn, go_sem, simprocAttr])); fail_if_success (with_reducible refine eqOk_mk ?_))
               | ((with_reducible refine callE_B4 cQ ?_); simp -implicitDefEqProofs only [eqOk_true, RJ.cells, u8, ea, he1, hx, hc1, hc2, Array.size_empty, ck64, ck65, hn, go_sem, simprocAttr]; (skip; try (simp (disch := omega) only [wrW]; try simp -implicitDefEqProofs only [RJ.cells, u8, ea, he1, hx, hc1, hc2, Array.size_empty, ck64, ck65, hn, go_sem, simprocAttr])); fail_if_success (with_reducible refine eqOk_mk ?_))
               | ((with_reducible refine callE_B4 cS ?_); simp -implicitDefEqProofs only [eqOk_true, RJ.cells, u8, ea, he1, hx, hc1, hc2, Array.size_empty, ck64, ck65, hn, go_sem, simprocAttr]; (skip; try (simp (disch := omega) only [wrW]; try simp -implicitDefEqProofs only [RJ.cells, u8, ea, he1, hx, hc1, hc2, Array.size_empty, ck64, ck65, hn, go_sem, simprocAttr])); fail_if_success (with_reducible refine eqOk_mk ?_))
               | ((with_reducible refine callE_B4 cE ?_); simp -implicitDefEqProofs only [eqOk_true, RJ.cells, u8, ea, he1, hx, hc1, hc2, Array.size_empty, ck64, ck65, hn, go_sem, simprocAttr]; (skip; try (simp (disch := omega) only [wrW]; try simp -implicitDefEqProofs only [RJ.cells, u8, ea, he1, hx, hc1, hc2, Array.size_empty, ck64, ck65, hn, go_sem, simprocAttr])); fail_if_success (with_reducible refine eqOk_mk ?_))
               | ((first | ((with_reducible first | refine Rk.go k45_VsJNum2 (by constructor) ?_ | refine Rd.go 14 k45_VsJNum2 a45_14_VsJNum2 o45_14_VsJNum2 mixed (by constructor) (by kernel_rfl) (by kernel_rfl) ?_); intro K hK) | with_reducible refine Rr.go [] (by constructor) ?_ | (with_reducible refine guardP_split (fun hg => ?_) fun hg => ?_) <;> (try simp only [hg]) <;> (try simp only [hgW] at hg)) <;> simp -implicitDefEqProofs only [RJ.cells, u8, ea, he1, hx, hc1, hc2, Array.size_empty, ck64, ck65, hn, go_sem, simprocAttr] <;> try (simp (disch := omega) only [wrW]; try simp -implicitDefEqProofs only [RJ.cells, u8, ea, he1, hx, hc1, hc2, Array.size_empty, ck64, ck65, hn, go_sem, simprocAttr]))
               | with_reducible refine And.intro (by first | omega | (simp only [hgW]; omega)) ?_
               | (exfalso; omega)
          · rw [decide_eq_false hf] at cE hR
            cases hR
            rw [if_neg (by decide)]
            have c33 := K33 e
            obtain ⟨F, hF⟩ : ∃ F, RJ.fail ⟨b, e, deep, nodes, err⟩ 11 = F := ⟨_, rfl⟩
            have hFb : F.at_ = e ∧ F.b = b := by rw [← hF]; unfold RJ.fail; split <;> exact ⟨rfl, rfl⟩
            rw [hF] at c33 ⊢
            obtain ⟨Fb, Fa, Fd, Fn, Fe⟩ := F
            simp only at hFb
            obtain ⟨rfl, rfl⟩ := hFb
            rcases hcases with ⟨hc1, hc2⟩ | ⟨hc1, hc2⟩
            all_goals
              refine CallsB.intro Tryd.func45 rfl (by show 1 ≤ 72; decide) ?_
              rintro X hX
              have hn : X.n = 72 := hX
              unfold Tryd.f45
              dsimp only
              rw [entryB11]
              repeat' first
               | with_reducible refine Rl.go (by constructor <;> decide) ?_
               | ((with_reducible first | refine hK _ ?_ | refine hK.1 ?_ | refine hK.2 ?_); clear hK K)
               | ((with_reducible refine condS hK (fun hg => ?_) fun hg => ?_) <;> clear hK K <;> (try simp only [hgW] at hg) <;> try (exfalso; omega))
               | ((with_reducible refine callE_B4 cA ?_); simp -implicitDefEqProofs only [eqOk_true, RJ.cells, u8, ea, he1, hx, hc1, hc2, Array.size_empty, ck64, ck65, hn, go_sem, simprocAttr]; (skip; try (simp (disch := omega) only [wrW]; try simp -implicitDefEqProofs only [RJ.cells, u8, ea, he1, hx, hc1, hc2, Array.size_empty, ck64, ck65, hn, go_sem, simprocAttr])); fail_if_success (with_reducible refine eqOk_mk ?_))
               | ((with_reducible refine callE_B4 cD ?_); simp -implicitDefEqProofs only [eqOk_true, RJ.cells, u8, ea, he1, hx, hc1, hc2, Array.size_empty, ck64, ck65, hn, go_sem, simprocAttr]; (skip; try (simp (disch := omega) only [wrW]; try simp -implicitDefEqProofs only [RJ.cells, u8, ea, he1, hx, hc1, hc2, Array.size_empty, ck64, ck65, hn, go_sem, simprocAttr])); fail_if_success (with_reducible refine eqOk_mk ?_))
               | ((with_reducible refine callE_B4 cP ?_); simp -implicitDefEqProofs only [eqOk_true, RJ.cells, u8, ea, he1, hx, hc1, hc2, Array.size_empty, ck64, ck65, hn, go_sem, simprocAttr]; (skip; try (simp (disch := omega) only [wrW]; try simp -implicitDefEqProofs only [RJ.cells, u8, ea, he1, hx, hc1, hc2, Array.size_empty, ck64, ck65, hn, go_sem, simprocAttr])); fail_if_success (with_reducible refine eqOk_mk ?_))
               | ((with_reducible refine callE_B4 cQ ?_); simp -implicitDefEqProofs only [eqOk_true, RJ.cells, u8, ea, he1, hx, hc1, hc2, Array.size_empty, ck64, ck65, hn, go_sem, simprocAttr]; (skip; try (simp (disch := omega) only [wrW]; try simp -implicitDefEqProofs only [RJ.cells, u8, ea, he1, hx, hc1, hc2, Array.size_empty, ck64, ck65, hn, go_sem, simprocAttr])); fail_if_success (with_reducible refine eqOk_mk ?_))
               | ((with_reducible refine callE_B4 cS ?_); simp -implicitDefEqProofs only [eqOk_true, RJ.cells, u8, ea, he1, hx, hc1, hc2, Array.size_empty, ck64, ck65, hn, go_sem, simprocAttr]; (skip; try (simp (disch := omega) only [wrW]; try simp -implicitDefEqProofs only [RJ.cells, u8, ea, he1, hx, hc1, hc2, Array.size_empty, ck64, ck65, hn, go_sem, simprocAttr])); fail_if_success (with_reducible refine eqOk_mk ?_))
               | ((with_reducible refine callE_B4 cE ?_); simp -implicitDefEqProofs only [eqOk_true, RJ.cells, u8, ea, he1, hx, hc1, hc2, Array.size_empty, ck64, ck65, hn, go_sem, simprocAttr]; (skip; try (simp (disch := omega) only [wrW]; try simp -implicitDefEqProofs only [RJ.cells, u8, ea, he1, hx, hc1, hc2, Array.size_empty, ck64, ck65, hn, go_sem, simprocAttr])); fail_if_success (with_reducible refine eqOk_mk ?_))
               | ((first | ((with_reducible first | refine Rk.go k45_VsJNum2 (by constructor) ?_ | refine Rd.go 14 k45_VsJNum2 a45_14_VsJNum2 o45_14_VsJNum2 mixed (by constructor) (by kernel_rfl) (by kernel_rfl) ?_); intro K hK) | with_reducible refine Rr.go [] (by constructor) ?_ | (with_reducible refine guardP_split (fun hg => ?_) fun hg => ?_) <;> (try simp only [hg]) <;> (try simp only [hgW] at hg) | (with_reducible refine callE_B4 c33 ?_)) <;> simp -implicitDefEqProofs only [eqOk_true, RJ.cells, u8, ea, he1, hx, hc1, hc2, Array.size_empty, ck64, ck65, hn, go_sem, simprocAttr] <;> try (simp (disch := omega) only [wrW]; try simp -implicitDefEqProofs only [RJ.cells, u8, ea, he1, hx, hc1, hc2, Array.size_empty, ck64, ck65, hn, go_sem, simprocAttr]))
               | with_reducible refine And.intro (by first | omega | (simp only [hgW]; omega)) ?_
               | (exfalso; omega)
      | true =>
        simp only [if_true] at hR
        have hG := digP_le b p2 (by omega)
        have cG := K64 p2 (by omega)
        unfold digS at cG
        have hGe : digP b p2 = (decide (p2 < digAt b p2), digAt b p2) := rfl
        rw [hGe] at hG hR
        simp only at hG cG hR
        generalize digAt b p2 = g2 at *
        by_cases hg2 : p2 < g2
        · rw [decide_eq_true hg2] at cG hR
          unfold numP4 at hR
          simp only [if_true] at hR
          have hQ := isP_le b g2 [101, 69] (by omega)
          have cQ := K65 g2 [101, 69] (by omega) (by decide)
          generalize isP b g2 [101, 69] = Q at *
          obtain ⟨q1, q2⟩ := Q
          simp only at hQ cQ hR
          cases q1 with
          | false =>
            simp only [Bool.false_eq_true, if_false] at hR
            cases hR
            rw [if_pos rfl]
            rcases hcases with ⟨hc1, hc2⟩ | ⟨hc1, hc2⟩
            all_goals
              refine CallsB.intro Tryd.func45 rfl (by show 1 ≤ 72; decide) ?_
              rintro X hX
              have hn : X.n = 72 := hX
              unfold Tryd.f45
              dsimp only
              rw [entryB11]
              repeat' first
               | with_reducible refine Rl.go (by constructor <;> decide) ?_
               | ((with_reducible first | refine hK _ ?_ | refine hK.1 ?_ | refine hK.2 ?_); clear hK K)
               | ((with_reducible refine condS hK (fun hg => ?_) fun hg => ?_) <;> clear hK K <;> (try simp only [hgW] at hg) <;> try (exfalso; omega))
               | ((with_reducible refine callE_B4 cA ?_); simp -implicitDefEqProofs only [eqOk_true, RJ.cells, u8, ea, he1, hx, hc1, hc2, Array.size_empty, ck64, ck65, hn, go_sem, simprocAttr]; (skip; try (simp (disch := omega) only [wrW]; try simp -implicitDefEqProofs only [RJ.cells, u8, ea, he1, hx, hc1, hc2, Array.size_empty, ck64, ck65, hn, go_sem, simprocAttr])); fail_if_success (with_reducible refine eqOk_mk ?_))
               | ((with_reducible refine callE_B4 cD ?_); simp -implicitDefEqProofs only [eqOk_true, RJ.cells, u8, ea, he1, hx, hc1, hc2, Array.size_empty, ck64, ck65, hn, go_sem, simprocAttr]; (skip; try (simp (disch := omega) only [wrW]; try simp -implicitDefEqProofs only [RJ.cells, u8, ea, he1, hx, hc1, hc2, Array.size_empty, ck64, ck65, hn, go_sem, simprocAttr])); fail_if_success (with_reducible refine eqOk_mk ?_))
               | ((with_reducible refine callE_B4 cP ?_); simp -implicitDefEqProofs only [eqOk_true, RJ.cells, u8, ea, he1, hx, hc1, hc2, Array.size_empty, ck64, ck65, hn, go_sem, simprocAttr]; (skip; try (simp (disch := omega) only [wrW]; try simp -implicitDefEqProofs only [RJ.cells, u8, ea, he1, hx, hc1, hc2, Array.size_empty, ck64, ck65, hn, go_sem, simprocAttr])); fail_if_success (with_reducible refine eqOk_mk ?_))
               | ((with_reducible refine callE_B4 cG ?_); simp -implicitDefEqProofs only [eqOk_true, RJ.cells, u8, ea, he1, hx, hc1, hc2, Array.size_empty, ck64, ck65, hn, go_sem, simprocAttr]; (skip; try (simp (disch := omega) only [wrW]; try simp -implicitDefEqProofs only [RJ.cells, u8, ea, he1, hx, hc1, hc2, Array.size_empty, ck64, ck65, hn, go_sem, simprocAttr])); fail_if_success (with_reducible refine eqOk_mk ?_))
               | ((with_reducible refine callE_B4 cQ ?_); simp -implicitDefEqProofs only [eqOk_true, RJ.cells, u8, ea, he1, hx, hc1, hc2, Array.size_empty, ck64, ck65, hn, go_sem, simprocAttr]; (skip; try (simp (disch := omega) only [wrW]; try simp -implicitDefEqProofs only [RJ.cells, u8, ea, he1, hx, hc1, hc2, Array.size_empty, ck64, ck65, hn, go_sem, simprocAttr])); fail_if_success (with_reducible refine eqOk_mk ?_))
               | ((first | ((with_reducible first | refine Rk.go k45_VsJNum2 (by constructor) ?_ | refine Rd.go 14 k45_VsJNum2 a45_14_VsJNum2 o45_14_VsJNum2 mixed (by constructor) (by kernel_rfl) (by kernel_rfl) ?_); intro K hK) | with_reducible refine Rr.go [] (by constructor) ?_ | (with_reducible refine guardP_split (fun hg => ?_) fun hg => ?_) <;> (try simp only [hg]) <;> (try simp only [hgW] at hg)) <;> simp -implicitDefEqProofs only [RJ.cells, u8, ea, he1, hx, hc1, hc2, Array.size_empty, ck64, ck65, hn, go_sem, simprocAttr] <;> try (simp (disch := omega) only [wrW]; try simp -implicitDefEqProofs only [RJ.cells, u8, ea, he1, hx, hc1, hc2, Array.size_empty, ck64, ck65, hn, go_sem, simprocAttr]))
               | with_reducible refine And.intro (by first | omega | (simp only [hgW]; omega)) ?_
               | (exfalso; omega)
          | true =>
            simp only [if_true] at hR
            have hS := isP_le b q2 [43, 45] (by omega)
            have cS := K65 q2 [43, 45] (by omega) (by decide)
            generalize isP b q2 [43, 45] = S at *
            obtain ⟨s1, s2⟩ := S
            simp only at hS cS hR
            have hE := digP_le b s2 (by omega)
            have cE := K64 s2 (by omega)
            unfold digS at cE
            have hEe : digP b s2 = (decide (s2 < digAt b s2), digAt b s2) := rfl
            rw [hEe] at hE hR
            simp only at hE cE hR
            generalize digAt b s2 = f2 at *
            by_cases hf : s2 < f2
            · rw [decide_eq_true hf] at cE hR
              cases hR
              rw [if_pos rfl]
              rcases hcases with ⟨hc1, hc2⟩ | ⟨hc1, hc2⟩
              all_goals
                refine CallsB.intro Tryd.func45 rfl (by show 1 ≤ 72; decide) ?_
                rintro X hX
                have hn : X.n = 72 := hX
                unfold Tryd.f45
                dsimp only
                rw [entryB11]
                repeat' first
                 | with_reducible refine Rl.go (by constructor <;> decide) ?_
                 | ((with_reducible first | refine hK _ ?_ | refine hK.1 ?_ | refine hK.2 ?_); clear hK K)
                 | ((with_reducible refine condS hK (fun hg => ?_) fun hg => ?_) <;> clear hK K <;> (try simp only [hgW] at hg) <;> try (exfalso; omega))
                 | ((with_reducible refine callE_B4 cA ?_); simp -implicitDefEqProofs only [eqOk_true, RJ.cells, u8, ea, he1, hx, hc1, hc2, Array.size_empty, ck64, ck65, hn, go_sem, simprocAttr]; (skip; try (simp (disch := omega) only [wrW]; try simp -implicitDefEqProofs only [RJ.cells, u8, ea, he1, hx, hc1, hc2, Array.size_empty, ck64, ck65, hn, go_sem, simprocAttr])); fail_if_success (with_reducible refine eqOk_mk ?_))
                 | ((with_reducible refine callE_B4 cD ?_); simp -implicitDefEqProofs only [eqOk_true, RJ.cells, u8, ea, he1, hx, hc1, hc2, Array.size_empty, ck64, ck65, hn, go_sem, simprocAttr]; (skip; try (simp (disch := omega) only [wrW]; try simp -implicitDefEqProofs only [RJ.cells, u8, ea, he1, hx, hc1, hc2, Array.size_empty, ck64, ck65, hn, go_sem, simprocAttr])); fail_if_success (with_reducible refine eqOk_mk ?_))
                 | ((with_reducible refine callE_B4 cP ?_); simp -implicitDefEqProofs only [eqOk_true, RJ.cells, u8, ea, he1, hx, hc1, hc2, Array.size_empty, ck64, ck65, hn, go_sem, simprocAttr]; (skip; try (simp (disch := omega) only [wrW]; try simp -implicitDefEqProofs only [RJ.cells, u8, ea, he1, hx, hc1, hc2, Array.size_empty, ck64, ck65, hn, go_sem, simprocAttr])); fail_if_success (with_reducible refine eqOk_mk ?_))
                 | ((with_reducible refine callE_B4 cG ?_); simp -implicitDefEqProofs only [eqOk_true, RJ.cells, u8, ea, he1, hx, hc1, hc2, Array.size_empty, ck64, ck65, hn, go_sem, simprocAttr]; (skip; try (simp (disch := omega) only [wrW]; try simp -implicitDefEqProofs only [RJ.cells, u8, ea, he1, hx, hc1, hc2, Array.size_empty, ck64, ck65, hn, go_sem, simprocAttr])); fail_if_success (with_reducible refine eqOk_mk ?_))
                 | ((with_reducible refine callE_B4 cQ ?_); simp -implicitDefEqProofs only [eqOk_true, RJ.cells, u8, ea, he1, hx, hc1, hc2, Array.size_empty, ck64, ck65, hn, go_sem, simprocAttr]; (skip; try (simp (disch := omega) only [wrW]; try simp -implicitDefEqProofs only [RJ.cells, u8, ea, he1, hx, hc1, hc2, Array.size_empty, ck64, ck65, hn, go_sem, simprocAttr])); fail_if_success (with_reducible refine eqOk_mk ?_))
                 | ((with_reducible refine callE_B4 cS ?_); simp -implicitDefEqProofs only [eqOk_true, RJ.cells, u8, ea, he1, hx, hc1, hc2, Array.size_empty, ck64, ck65, hn, go_sem, simprocAttr]; (skip; try (simp (disch := omega) only [wrW]; try simp -implicitDefEqProofs only [RJ.cells, u8, ea, he1, hx, hc1, hc2, Array.size_empty, ck64, ck65, hn, go_sem, simprocAttr])); fail_if_success (with_reducible refine eqOk_mk ?_))
                 | ((with_reducible refine callE_B4 cE ?_); simp -implicitDefEqProofs only [eqOk_true, RJ.cells, u8, ea, he1, hx, hc1, hc2, Array.size_empty, ck64, ck65, hn, go_sem, simprocAttr]; (skip; try (simp (disch := omega) only [wrW]; try simp -implicitDefEqProofs only [RJ.cells, u8, ea, he1, hx, hc1, hc2, Array.size_empty, ck64, ck65, hn, go_sem, simprocAttr])); fail_if_success (with_reducible refine eqOk_mk ?_))
                 | ((first | ((with_reducible first | refine Rk.go k45_VsJNum2 (by constructor) ?_ | refine Rd.go 14 k45_VsJNum2 a45_14_VsJNum2 o45_14_VsJNum2 mixed (by constructor) (by kernel_rfl) (by kernel_rfl) ?_); intro K hK) | with_reducible refine Rr.go [] (by constructor) ?_ | (with_reducible refine guardP_split (fun hg => ?_) fun hg => ?_) <;> (try simp only [hg]) <;> (try simp only [hgW] at hg)) <;> simp -implicitDefEqProofs only [RJ.cells, u8, ea, he1, hx, hc1, hc2, Array.size_empty, ck64, ck65, hn, go_sem, simprocAttr] <;> try (simp (disch := omega) only [wrW]; try simp -implicitDefEqProofs only [RJ.cells, u8, ea, he1, hx, hc1, hc2, Array.size_empty, ck64, ck65, hn, go_sem, simprocAttr]))
                 | with_reducible refine And.intro (by first | omega | (simp only [hgW]; omega)) ?_
                 | (exfalso; omega)
            · rw [decide_eq_false hf] at cE hR
              cases hR
              rw [if_neg (by decide)]
              have c33 := K33 e
              obtain ⟨F, hF⟩ : ∃ F, RJ.fail ⟨b, e, deep, nodes, err⟩ 11 = F := ⟨_, rfl⟩
              have hFb : F.at_ = e ∧ F.b = b := by rw [← hF]; unfold RJ.fail; split <;> exact ⟨rfl, rfl⟩
              rw [hF] at c33 ⊢
              obtain ⟨Fb, Fa, Fd, Fn, Fe⟩ := F
              simp only at hFb
              obtain ⟨rfl, rfl⟩ := hFb
              rcases hcases with ⟨hc1, hc2⟩ | ⟨hc1, hc2⟩
              all_goals
                refine CallsB.intro Tryd.func45 rfl (by show 1 ≤ 72; decide) ?_
                rintro X hX
                have hn : X.n = 72 := hX
                unfold Tryd.f45
                dsimp only
                rw [entryB11]
                repeat' first
                 | with_reducible refine Rl.go (by constructor <;> decide) ?_
                 | ((with_reducible first | refine hK _ ?_ | refine hK.1 ?_ | refine hK.2 ?_); clear hK K)
                 | ((with_reducible refine condS hK (fun hg => ?_) fun hg => ?_) <;> clear hK K <;> (try simp only [hgW] at hg) <;> try (exfalso; omega))
                 | ((with_reducible refine callE_B4 cA ?_); simp -implicitDefEqProofs only [eqOk_true, RJ.cells, u8, ea, he1, hx, hc1, hc2, Array.size_empty, ck64, ck65, hn, go_sem, simprocAttr]; (skip; try (simp (disch := omega) only [wrW]; try simp -implicitDefEqProofs only [RJ.cells, u8, ea, he1, hx, hc1, hc2, Array.size_empty, ck64, ck65, hn, go_sem, simprocAttr])); fail_if_success (with_reducible refine eqOk_mk ?_))
                 | ((with_reducible refine callE_B4 cD ?_); simp -implicitDefEqProofs only [eqOk_true, RJ.cells, u8, ea, he1, hx, hc1, hc2, Array.size_empty, ck64, ck65, hn, go_sem, simprocAttr]; (skip; try (simp (disch := omega) only [wrW]; try simp -implicitDefEqProofs only [RJ.cells, u8, ea, he1, hx, hc1, hc2, Array.size_empty, ck64, ck65, hn, go_sem, simprocAttr])); fail_if_success (with_reducible refine eqOk_mk ?_))
                 | ((with_reducible refine callE_B4 cP ?_); simp -implicitDefEqProofs only [eqOk_true, RJ.cells, u8, ea, he1, hx, hc1, hc2, Array.size_empty, ck64, ck65, hn, go_sem, simprocAttr]; (skip; try (simp (disch := omega) only [wrW]; try simp -implicitDefEqProofs only [RJ.cells, u8, ea, he1, hx, hc1, hc2, Array.size_empty, ck64, ck65, hn, go_sem, simprocAttr])); fail_if_success (with_reducible refine eqOk_mk ?_))
                 | ((with_reducible refine callE_B4 cG ?_); simp -implicitDefEqProofs only [eqOk_true, RJ.cells, u8, ea, he1, hx, hc1, hc2, Array.size_empty, ck64, ck65, hn, go_sem, simprocAttr]; (skip; try (simp (disch := omega) only [wrW]; try simp -implicitDefEqProofs only [RJ.cells, u8, ea, he1, hx, hc1, hc2, Array.size_empty, ck64, ck65, hn, go_sem, simprocAttr])); fail_if_success (with_reducible refine eqOk_mk ?_))
                 | ((with_reducible refine callE_B4 cQ ?_); simp -implicitDefEqProofs only [eqOk_true, RJ.cells, u8, ea, he1, hx, hc1, hc2, Array.size_empty, ck64, ck65, hn, go_sem, simprocAttr]; (skip; try (simp (disch := omega) only [wrW]; try simp -implicitDefEqProofs only [RJ.cells, u8, ea, he1, hx, hc1, hc2, Array.size_empty, ck64, ck65, hn, go_sem, simprocAttr])); fail_if_success (with_reducible refine eqOk_mk ?_))
                 | ((with_reducible refine callE_B4 cS ?_); simp -implicitDefEqProofs only [eqOk_true, RJ.cells, u8, ea, he1, hx, hc1, hc2, Array.size_empty, ck64, ck65, hn, go_sem, simprocAttr]; (skip; try (simp (disch := omega) only [wrW]; try simp -implicitDefEqProofs only [RJ.cells, u8, ea, he1, hx, hc1, hc2, Array.size_empty, ck64, ck65, hn, go_sem, simprocAttr])); fail_if_success (with_reducible refine eqOk_mk ?_))
                 | ((with_reducible refine callE_B4 cE ?_); simp -implicitDefEqProofs only [eqOk_true, RJ.cells, u8, ea, he1, hx, hc1, hc2, Array.size_empty, ck64, ck65, hn, go_sem, simprocAttr]; (skip; try (simp (disch := omega) only [wrW]; try simp -implicitDefEqProofs only [RJ.cells, u8, ea, he1, hx, hc1, hc2, Array.size_empty, ck64, ck65, hn, go_sem, simprocAttr])); fail_if_success (with_reducible refine eqOk_mk ?_))
                 | ((first | ((with_reducible first | refine Rk.go k45_VsJNum2 (by constructor) ?_ | refine Rd.go 14 k45_VsJNum2 a45_14_VsJNum2 o45_14_VsJNum2 mixed (by constructor) (by kernel_rfl) (by kernel_rfl) ?_); intro K hK) | with_reducible refine Rr.go [] (by constructor) ?_ | (with_reducible refine guardP_split (fun hg => ?_) fun hg => ?_) <;> (try simp only [hg]) <;> (try simp only [hgW] at hg) | (with_reducible refine callE_B4 c33 ?_)) <;> simp -implicitDefEqProofs only [eqOk_true, RJ.cells, u8, ea, he1, hx, hc1, hc2, Array.size_empty, ck64, ck65, hn, go_sem, simprocAttr] <;> try (simp (disch := omega) only [wrW]; try simp -implicitDefEqProofs only [RJ.cells, u8, ea, he1, hx, hc1, hc2, Array.size_empty, ck64, ck65, hn, go_sem, simprocAttr]))
                 | with_reducible refine And.intro (by first | omega | (simp only [hgW]; omega)) ?_
                 | (exfalso; omega)
        · rw [decide_eq_false hg2] at cG hR
          unfold numP4 at hR
          simp only [Bool.false_eq_true, if_false] at hR
          cases hR
          rw [if_neg (by decide)]
          have c33 := K33 e
          obtain ⟨F, hF⟩ : ∃ F, RJ.fail ⟨b, e, deep, nodes, err⟩ 11 = F := ⟨_, rfl⟩
          have hFb : F.at_ = e ∧ F.b = b := by rw [← hF]; unfold RJ.fail; split <;> exact ⟨rfl, rfl⟩
          rw [hF] at c33 ⊢
          obtain ⟨Fb, Fa, Fd, Fn, Fe⟩ := F
          simp only at hFb
          obtain ⟨rfl, rfl⟩ := hFb
          rcases hcases with ⟨hc1, hc2⟩ | ⟨hc1, hc2⟩
          all_goals
            refine CallsB.intro Tryd.func45 rfl (by show 1 ≤ 72; decide) ?_
            rintro X hX
            have hn : X.n = 72 := hX
            unfold Tryd.f45
            dsimp only
            rw [entryB11]
            repeat' first
             | with_reducible refine Rl.go (by constructor <;> decide) ?_
             | ((with_reducible first | refine hK _ ?_ | refine hK.1 ?_ | refine hK.2 ?_); clear hK K)
             | ((with_reducible refine condS hK (fun hg => ?_) fun hg => ?_) <;> clear hK K <;> (try simp only [hgW] at hg) <;> try (exfalso; omega))
             | ((with_reducible refine callE_B4 cA ?_); simp -implicitDefEqProofs only [eqOk_true, RJ.cells, u8, ea, he1, hx, hc1, hc2, Array.size_empty, ck64, ck65, hn, go_sem, simprocAttr]; (skip; try (simp (disch := omega) only [wrW]; try simp -implicitDefEqProofs only [RJ.cells, u8, ea, he1, hx, hc1, hc2, Array.size_empty, ck64, ck65, hn, go_sem, simprocAttr])); fail_if_success (with_reducible refine eqOk_mk ?_))
             | ((with_reducible refine callE_B4 cD ?_); simp -implicitDefEqProofs only [eqOk_true, RJ.cells, u8, ea, he1, hx, hc1, hc2, Array.size_empty, ck64, ck65, hn, go_sem, simprocAttr]; (skip; try (simp (disch := omega) only [wrW]; try simp -implicitDefEqProofs only [RJ.cells, u8, ea, he1, hx, hc1, hc2, Array.size_empty, ck64, ck65, hn, go_sem, simprocAttr])); fail_if_success (with_reducible refine eqOk_mk ?_))
             | ((with_reducible refine callE_B4 cP ?_); simp -implicitDefEqProofs only [eqOk_true, RJ.cells, u8, ea, he1, hx, hc1, hc2, Array.size_empty, ck64, ck65, hn, go_sem, simprocAttr]; (skip; try (simp (disch := omega) only [wrW]; try simp -implicitDefEqProofs only [RJ.cells, u8, ea, he1, hx, hc1, hc2, Array.size_empty, ck64, ck65, hn, go_sem, simprocAttr])); fail_if_success (with_reducible refine eqOk_mk ?_))
             | ((with_reducible refine callE_B4 cG ?_); simp -implicitDefEqProofs only [eqOk_true, RJ.cells, u8, ea, he1, hx, hc1, hc2, Array.size_empty, ck64, ck65, hn, go_sem, simprocAttr]; (skip; try (simp (disch := omega) only [wrW]; try simp -implicitDefEqProofs only [RJ.cells, u8, ea, he1, hx, hc1, hc2, Array.size_empty, ck64, ck65, hn, go_sem, simprocAttr])); fail_if_success (with_reducible refine eqOk_mk ?_))
             | ((first | ((with_reducible first | refine Rk.go k45_VsJNum2 (by constructor) ?_ | refine Rd.go 14 k45_VsJNum2 a45_14_VsJNum2 o45_14_VsJNum2 mixed (by constructor) (by kernel_rfl) (by kernel_rfl) ?_); intro K hK) | with_reducible refine Rr.go [] (by constructor) ?_ | (with_reducible refine guardP_split (fun hg => ?_) fun hg => ?_) <;> (try simp only [hg]) <;> (try simp only [hgW] at hg) | (with_reducible refine callE_B4 c33 ?_)) <;> simp -implicitDefEqProofs only [eqOk_true, RJ.cells, u8, ea, he1, hx, hc1, hc2, Array.size_empty, ck64, ck65, hn, go_sem, simprocAttr] <;> try (simp (disch := omega) only [wrW]; try simp -implicitDefEqProofs only [RJ.cells, u8, ea, he1, hx, hc1, hc2, Array.size_empty, ck64, ck65, hn, go_sem, simprocAttr]))
             | with_reducible refine And.intro (by first | omega | (simp only [hgW]; omega)) ?_
             | (exfalso; omega)
    · have hok : (true && (decide (d2 = a2 + 1) || decide (x ≠ 48))) = false := by
        have h1 : d2 ≠ a2 + 1 := fun h => hz (.inl h)
        have h2 : x = 48 := Classical.not_not.1 fun h => hz (.inr h)
        simp [h1, h2]
      have h48 : (x.toNat : Int) = 48 := hx48.1 (Classical.not_not.1 fun h => hz (.inr h))
      have hne : ((d2 : Int) == ((a2 + 1 : Nat) : Int)) = false := beq_eq_false_iff_ne.2 (by have h1 : d2 ≠ a2 + 1 := fun h => hz (.inl h); omega)
      rw [hok] at hR
      unfold numP2 at hR
      simp only [Bool.false_eq_true, if_false] at hR
      unfold numP4 at hR
      simp only [Bool.false_eq_true, if_false] at hR
      cases hR
      rw [if_neg (by decide)]
      have c33 := K33 e
      obtain ⟨F, hF⟩ : ∃ F, RJ.fail ⟨b, e, deep, nodes, err⟩ 11 = F := ⟨_, rfl⟩
      have hFb : F.at_ = e ∧ F.b = b := by rw [← hF]; unfold RJ.fail; split <;> exact ⟨rfl, rfl⟩
      rw [hF] at c33 ⊢
      obtain ⟨Fb, Fa, Fd, Fn, Fe⟩ := F
      simp only at hFb
      obtain ⟨rfl, rfl⟩ := hFb
      refine CallsB.intro Tryd.func45 rfl (by show 1 ≤ 72; decide) ?_
      rintro X hX
      have hn : X.n = 72 := hX
      unfold Tryd.f45
      dsimp only
      rw [entryB11]
      repeat' first
       | with_reducible refine Rl.go (by constructor <;> decide) ?_
       | ((with_reducible first | refine hK _ ?_ | refine hK.1 ?_ | refine hK.2 ?_); clear hK K)
       | ((with_reducible refine condS hK (fun hg => ?_) fun hg => ?_) <;> clear hK K <;> (try simp only [hgW] at hg) <;> try (exfalso; omega))
       | ((with_reducible refine callE_B4 cA ?_); simp -implicitDefEqProofs only [eqOk_true, RJ.cells, u8, ea, he1, hx, h48, hne, Array.size_empty, ck64, ck65, hn, go_sem, simprocAttr]; (skip; try (simp (disch := omega) only [wrW]; try simp -implicitDefEqProofs only [RJ.cells, u8, ea, he1, hx, h48, hne, Array.size_empty, ck64, ck65, hn, go_sem, simprocAttr])); fail_if_success (with_reducible refine eqOk_mk ?_))
       | ((with_reducible refine callE_B4 cD ?_); simp -implicitDefEqProofs only [eqOk_true, RJ.cells, u8, ea, he1, hx, h48, hne, Array.size_empty, ck64, ck65, hn, go_sem, simprocAttr]; (skip; try (simp (disch := omega) only [wrW]; try simp -implicitDefEqProofs only [RJ.cells, u8, ea, he1, hx, h48, hne, Array.size_empty, ck64, ck65, hn, go_sem, simprocAttr])); fail_if_success (with_reducible refine eqOk_mk ?_))
       | ((first | ((with_reducible first | refine Rk.go k45_VsJNum2 (by constructor) ?_ | refine Rd.go 14 k45_VsJNum2 a45_14_VsJNum2 o45_14_VsJNum2 mixed (by constructor) (by kernel_rfl) (by kernel_rfl) ?_); intro K hK) | with_reducible refine Rr.go [] (by constructor) ?_ | (with_reducible refine guardP_split (fun hg => ?_) fun hg => ?_) <;> (try simp only [hg]) <;> (try simp only [hgW] at hg) | (with_reducible refine callE_B4 c33 ?_)) <;> simp -implicitDefEqProofs only [eqOk_true, RJ.cells, u8, ea, he1, hx, h48, hne, Array.size_empty, ck64, ck65, hn, go_sem, simprocAttr] <;> try (simp (disch := omega) only [wrW]; try simp -implicitDefEqProofs only [RJ.cells, u8, ea, he1, hx, h48, hne, Array.size_empty, ck64, ck65, hn, go_sem, simprocAttr]))
       | with_reducible refine And.intro (by first | omega | (simp only [hgW]; omega)) ?_
       | (exfalso; omega)
  · rw [decide_eq_false hd] at cD hR
    simp only [Bool.false_and] at hR
    unfold numP2 at hR
    simp only [Bool.false_eq_true, if_false] at hR
    unfold numP4 at hR
    simp only [Bool.false_eq_true, if_false] at hR
    cases hR
    rw [if_neg (by decide)]
    have c33 := K33 e
    obtain ⟨F, hF⟩ : ∃ F, RJ.fail ⟨b, e, deep, nodes, err⟩ 11 = F := ⟨_, rfl⟩
    have hFb : F.at_ = e ∧ F.b = b := by rw [← hF]; unfold RJ.fail; split <;> exact ⟨rfl, rfl⟩
    rw [hF] at c33 ⊢
    obtain ⟨Fb, Fa, Fd, Fn, Fe⟩ := F
    simp only at hFb
    obtain ⟨rfl, rfl⟩ := hFb
    refine CallsB.intro Tryd.func45 rfl (by show 1 ≤ 72; decide) ?_
    rintro X hX
    have hn : X.n = 72 := hX
    unfold Tryd.f45
    dsimp only
    rw [entryB11]
    repeat' first
     | with_reducible refine Rl.go (by constructor <;> decide) ?_
     | ((with_reducible first | refine hK _ ?_ | refine hK.1 ?_ | refine hK.2 ?_); clear hK K)
     | ((with_reducible refine condS hK (fun hg => ?_) fun hg => ?_) <;> clear hK K <;> (try simp only [hgW] at hg) <;> try (exfalso; omega))
     | ((with_reducible refine callE_B4 cA ?_); simp -implicitDefEqProofs only [eqOk_true, RJ.cells, u8, ea, he1, Array.size_empty, ck64, ck65, hn, go_sem, simprocAttr]; (skip; try (simp (disch := omega) only [wrW]; try simp -implicitDefEqProofs only [RJ.cells, u8, ea, he1, Array.size_empty, ck64, ck65, hn, go_sem, simprocAttr])); fail_if_success (with_reducible refine eqOk_mk ?_))
     | ((with_reducible refine callE_B4 cD ?_); simp -implicitDefEqProofs only [eqOk_true, RJ.cells, u8, ea, he1, Array.size_empty, ck64, ck65, hn, go_sem, simprocAttr]; (skip; try (simp (disch := omega) only [wrW]; try simp -implicitDefEqProofs only [RJ.cells, u8, ea, he1, Array.size_empty, ck64, ck65, hn, go_sem, simprocAttr])); fail_if_success (with_reducible refine eqOk_mk ?_))
     | ((first | ((with_reducible first | refine Rk.go k45_VsJNum2 (by constructor) ?_ | refine Rd.go 14 k45_VsJNum2 a45_14_VsJNum2 o45_14_VsJNum2 mixed (by constructor) (by kernel_rfl) (by kernel_rfl) ?_); intro K hK) | with_reducible refine Rr.go [] (by constructor) ?_ | (with_reducible refine guardP_split (fun hg => ?_) fun hg => ?_) <;> (try simp only [hg]) <;> (try simp only [hgW] at hg) | (with_reducible refine callE_B4 c33 ?_)) <;> simp -implicitDefEqProofs only [eqOk_true, RJ.cells, u8, ea, he1, Array.size_empty, ck64, ck65, hn, go_sem, simprocAttr] <;> try (simp (disch := omega) only [wrW]; try simp -implicitDefEqProofs only [RJ.cells, u8, ea, he1, Array.size_empty, ck64, ck65, hn, go_sem, simprocAttr]))
     | with_reducible refine And.intro (by first | omega | (simp only [hgW]; omega)) ?_
     | (exfalso; omega)
end Go.Proofs.YtfemncfhiihckaaDoor
