/- Proved: the law DerOne answers true for every slice of bytes: whatever piece is read, it is written as the bytes that were read. No condition. -/
import Derived.Test.YtedjcbdhafmjiaaVsRow
import Derived.Test.YtedjcbdhafmjiaaVsCOne
import Derived.Test.YtedjcbdhafmjiaaRows
namespace Go.Proofs.Ytedjcbdhafmjiaa.derOne
open Go Go.VS Go.ChangeShapes Go.WideShapes Go.ChangeAt Go.RowKit
set_option linter.unusedVariables false
theorem own : ownKnob Try.prog.godebug = none := by kernel_rfl
theorem cells5 : Try.prog.cellsOf 5 = 1 := by kernel_rfl
set_option maxRecDepth 100000 in
theorem lifted (os : Os) (started : os.Started) (H : Type) (enc : TypeId × Value → H) :
    ReturnsInHanded {} Try.checked os 11 .any (Rows.derOneSpec.pre6 enc Try.prog Try.f11 Rows.derOneRow.domain false) (Rows.derOneSpec.post enc Try.prog Try.f11 false true false false) := by
  refine returnsInHanded_of_change_sized (C := Try.checked) own started (by kernel_rfl) Try.func11
    (ChangeSpec.witness6 (enc := enc) (C := Try.checked) false ⟨#[], #[.slice none 0 0], []⟩ 8 (by kernel_rfl) (by kernel_rfl) (by kernel_rfl) (by kernel_rfl)) ?_
  intro W base args ds gs before hval0 hW hcnd hsz0 _
  have hval : ∀ (j : Nat) t v, Try.f11.params[j]? = some t → args[j]? = some v → Value.okWide Try.prog W .any base t v := hval0
  have hlt := DataW.Whole.lt hW
  have hW' := hW
  obtain ⟨p, q, hA0, hV, rfl, hfz, hnd⟩ := hW
  have hA : DataW.TrodAll enc Try.prog W 0 (fun _ => true) true Try.f11.params.toList args.toList ds p := hA0
  rw [Try.params11] at hA hval
  obtain ⟨v0, vs0, d0, ds0, p0, q0, hargs, rfl, rfl, h0, r0⟩ := trodAll_cons hA
  obtain ⟨rfl, rfl, rfl⟩ := trodAll_nil r0
  obtain rfl : args = #[v0] := by cases args; simp_all
  obtain ⟨rfl, rfl⟩ := trodVars_none hV
  obtain ⟨hone, hplain⟩ := plain_arg Try.underlying25 (hval 0 25 v0 rfl rfl)
  obtain ⟨nb, bs, hnb, _, hrep⟩ := bytes_arg Try.underlying25 Try.underlying5 cells5 hone hplain h0
  refine (f11_ok nb bs hnb W (fun b => b < W.heap.size) [v0] (fun b hb => hb) ⟨rfl, fun i a v ha hv => ?_⟩).mono fun e W' hpost => ?_
  · cases i with
    | zero => simp at ha hv; subst ha; subst hv; exact hrep
    | succ i => simp at ha
  obtain ⟨v, C', he, hr, hm, _, _⟩ := hpost
  have hb := below_of hm
  simp only [Rep] at hr
  subst hr
  have hst : DataW.TrodAll enc Try.prog W' 0 (fun b => decide (b < W.heap.size)) true [25] [v0] [d0] (p0 ++ []) :=
    trodAll_stays (by kernel_rfl) (by kernel_rfl) (by kernel_rfl) (by simp) hA (fun p hp => hb.same (hlt p (by simpa using hp))) (fun p hp => by simpa using hlt p (by simpa using hp))
  exact ⟨_, he, _, _, _, [], _, [], hW', trodAll_mk1 (shut_bool Try.underlying4 _), hst, rfl, hb.frame _, fun h => by cases h⟩
theorem over : Rows.derOneRow.holds Try.pinned (OpenSpec.ofChange Rows.derOneSpec) :=
  OpenClaim.holds_of_wide 11 Try.f11 rfl rfl rfl rfl rfl rfl rfl ⟨rfl, rfl, rfl, rfl, rfl⟩ rfl rfl rfl rfl rfl (by kernel_rfl) Try.func11 (by kernel_rfl)
    (of_decide_eq_true (by kernel_rfl)) (by unfold Func.isWrapper; first | (rw [if_pos (by decide +kernel)]; kernel_rfl) | (rw [if_neg (by decide +kernel)]; exact ⟨rfl, rfl⟩))
    (fun os started H enc _ => lifted os started H enc)
end Go.Proofs.Ytedjcbdhafmjiaa.derOne

namespace Go.Proofs.Ytedjcbdhafmjiaa
theorem derOne_holds : Rows.DerOneSaid := derOne.over
end Go.Proofs.Ytedjcbdhafmjiaa
