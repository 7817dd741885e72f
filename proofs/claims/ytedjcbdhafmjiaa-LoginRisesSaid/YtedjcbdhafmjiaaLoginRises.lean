/- Proved: for any two counts the law LoginRises answers true: a count rises just if it is greater, or both are 0. No condition: every pair of 32-bit unsigned counts. -/
import Derived.Test.YtedjcbdhafmjiaaRows
import Derived.WalkKit
import Derived.ProofKit
import Derived.OpenShut
import Derived.ShutString
import Derived.ChangeOld
import Derived.Below
import Derived.SizedLaws
import Derived.OwnWalk
import Derived.KernelRfl
namespace Go.Proofs.Ytedjcbdhafmjiaa.loginRises
open Go.ChangeShapes Go.WideShapes Go.ChangeAt Go.RowKit
set_option linter.unusedVariables false
/-- What the program answers at two counts. -/
def risesB (a b : Int) : Bool := decide (a < b) || (a == 0 && b == 0)
theorem rises (a b : Int) (w : World) :
    Calls Try.prog 15 #[.int .u32 a, .int .u32 b] w fun e w' => e = .returned (.bool (risesB a b)) ∧ w = w' := by
  by_cases h1 : a < b
  · go_enter Try.func15, Try.ntmps15
    go_wp2
    go_ret
    exact ⟨by simp [risesB, h1], rfl⟩
  · by_cases h2 : a = 0
    · have h2b : (a == 0) = true := by simp [h2]
      go_enter Try.func15, Try.ntmps15
      go_wp2
      all_goals go_ret
      all_goals exact ⟨by simp [risesB, *], rfl⟩
    · have h2b : (a == 0) = false := by simp [h2]
      go_enter Try.func15, Try.ntmps15
      go_wp2
      all_goals go_ret
      all_goals exact ⟨by simp [risesB, *], rfl⟩
theorem awake (w : World) :
    Calls Try.prog 14 #[] w fun e w' => e = .returned (.bool true) ∧ w = w' := by
  have h1 : risesB 0 0 = true := by decide
  have h2 : risesB 1 2 = true := by decide
  have h3 : risesB 2 2 = false := by decide
  have h4 : risesB 1 0 = false := by decide
  go_enter Try.func14, Try.ntmps14
  go_wp2_with fail
  refine (rises _ _ _).mono ?_
  rintro e w' ⟨rfl, rfl⟩
  go_wp2_with fail
  refine (rises _ _ _).mono ?_
  rintro e w' ⟨rfl, rfl⟩
  go_wp2_with fail
  refine (rises _ _ _).mono ?_
  rintro e w' ⟨rfl, rfl⟩
  go_wp2_with fail
  refine (rises _ _ _).mono ?_
  rintro e w' ⟨rfl, rfl⟩
  go_wp2_with fail
  go_ret
  exact ⟨rfl, rfl⟩
theorem law (a b : Int) (w : World) :
    Calls Try.prog 3 #[.int .u32 a, .int .u32 b] w fun e w' => e = .returned (.bool true) ∧ w = w' := by
  by_cases h1 : a < b
  · have h5 : risesB a b = true := by simp [risesB, h1]
    go_enter Try.func3, Try.ntmps3
    go_wp2_with fail
    refine (awake _).mono ?_
    rintro e w' ⟨rfl, rfl⟩
    go_wp2_with fail
    refine (rises _ _ _).mono ?_
    rintro e w' ⟨rfl, rfl⟩
    go_wp2_with fail
    go_ret
    exact ⟨rfl, rfl⟩
  · by_cases h2 : a = 0
    · subst h2
      by_cases h3 : b = 0
      · subst h3
        have h5 : risesB 0 0 = true := by decide
        go_enter Try.func3, Try.ntmps3
        go_wp2_with fail
        refine (awake _).mono ?_
        rintro e w' ⟨rfl, rfl⟩
        go_wp2_with fail
        refine (rises _ _ _).mono ?_
        rintro e w' ⟨rfl, rfl⟩
        go_wp2_with fail
        go_ret
        exact ⟨rfl, rfl⟩
      · have h3b : (b == 0) = false := by simp [h3]
        have h1d : decide (0 < b) = false := by simpa using h1
        have h5 : risesB 0 b = false := by simp [risesB, h1, h3]
        go_enter Try.func3, Try.ntmps3
        go_wp2_with fail
        refine (awake _).mono ?_
        rintro e w' ⟨rfl, rfl⟩
        go_wp2_with fail
        refine (rises _ _ _).mono ?_
        rintro e w' ⟨rfl, rfl⟩
        go_wp2_with fail
        go_ret
        exact ⟨rfl, rfl⟩
    · have h2b : (a == 0) = false := by simp [h2]
      have h1d : decide (a < b) = false := by simpa using h1
      have h5 : risesB a b = false := by simp [risesB, h1, h2]
      go_enter Try.func3, Try.ntmps3
      go_wp2_with fail
      refine (awake _).mono ?_
      rintro e w' ⟨rfl, rfl⟩
      go_wp2_with fail
      refine (rises _ _ _).mono ?_
      rintro e w' ⟨rfl, rfl⟩
      go_wp2_with fail
      go_ret
      exact ⟨rfl, rfl⟩
theorem own : ownKnob Try.prog.godebug = none := by kernel_rfl
set_option maxRecDepth 100000 in
theorem lifted (os : Os) (started : os.Started) (H : Type) (enc : TypeId × Value → H) :
    ReturnsInHanded {} Try.checked os 3 .any (Rows.loginRisesSpec.pre6 enc Try.prog Try.f3 Rows.loginRisesRow.domain false) (Rows.loginRisesSpec.post enc Try.prog Try.f3 false true false false) := by
  refine returnsInHanded_of_change_sized (C := Try.checked) own started (by kernel_rfl) Try.func3
    (ChangeSpec.witness6 (enc := enc) (C := Try.checked) false ⟨#[], #[.int .u32 0, .int .u32 0], []⟩ 8 (by kernel_rfl) (by kernel_rfl) (by kernel_rfl) (by kernel_rfl)) ?_
  intro W base args ds gs before hval0 hW hcnd hsz0 _
  have hval : ∀ (j : Nat) t v, Try.f3.params[j]? = some t → args[j]? = some v → Value.okWide Try.prog W .any base t v := hval0
  have hW' := hW
  obtain ⟨p, q, hA0, hV, rfl, hfz, hnd⟩ := hW
  have hA : DataW.TrodAll enc Try.prog W 0 (fun _ => true) true Try.f3.params.toList args.toList ds p := hA0
  rw [Try.params3] at hA hval
  obtain ⟨v0, vs0, d0, ds0, p0, q0, hargs, rfl, rfl, h0, r0⟩ := trodAll_cons hA
  obtain ⟨v1, vs1, d1, ds1, p1, q1, rfl, rfl, rfl, h1, r1⟩ := trodAll_cons r0
  obtain ⟨rfl, rfl, rfl⟩ := trodAll_nil r1
  obtain rfl : args = #[v0, v1] := by cases args; simp_all
  obtain ⟨rfl, rfl⟩ := trodVars_none hV
  obtain ⟨a0, rfl, rfl, rfl, w0⟩ := open_int Try.underlying22 (hval 0 22 v0 rfl rfl) h0
  obtain ⟨a1, rfl, rfl, rfl, w1⟩ := open_int Try.underlying22 (hval 1 22 v1 rfl rfl) h1
  clear hA0 hval0 hsz0
  refine (law a0 a1 W).mono fun e W' ⟨he, hw⟩ => ?_
  subst he
  subst hw
  exact ⟨_, rfl, _, _, _, [], _, [], hW', trodAll_mk1 (shut_bool Try.underlying4 _), (trodAll_cons_mk (shut_int Try.underlying22 w0) (trodAll_cons_mk (shut_int Try.underlying22 w1) trodAll_mk0)), rfl, World.keptBut_refl _ _, fun h => by cases h⟩
theorem over : Rows.loginRisesRow.holds Try.pinned (OpenSpec.ofChange Rows.loginRisesSpec) :=
  OpenClaim.holds_of_wide 3 Try.f3 rfl rfl rfl rfl rfl rfl rfl ⟨rfl, rfl, rfl, rfl, rfl⟩ rfl rfl rfl rfl rfl (by kernel_rfl) Try.func3 (by kernel_rfl)
    (of_decide_eq_true (by kernel_rfl)) (by unfold Func.isWrapper; first | (rw [if_pos (by decide +kernel)]; kernel_rfl) | (rw [if_neg (by decide +kernel)]; exact ⟨rfl, rfl⟩))
    (fun os started H enc _ => lifted os started H enc)
end Go.Proofs.Ytedjcbdhafmjiaa.loginRises
namespace Go.Proofs.Ytedjcbdhafmjiaa
/-- The row. -/
theorem loginRises_holds : Rows.LoginRisesSaid := loginRises.over
end Go.Proofs.Ytedjcbdhafmjiaa
#print axioms Go.Proofs.Ytedjcbdhafmjiaa.loginRises_holds
