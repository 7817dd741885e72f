/- Proved: the law DerDays answers true for every day and second: each second's time is one more than that ahead of it. No condition. -/
import Derived.Test.YtedjcbdhafmjiaaVsLift
import Derived.Test.YtedjcbdhafmjiaaVsCDaysLaw
import Derived.Test.YtedjcbdhafmjiaaRows
namespace Go.Proofs.Ytedjcbdhafmjiaa.derDays
open Go Go.VS Go.ChangeShapes Go.WideShapes Go.ChangeAt Go.RowKit
set_option linter.unusedVariables false
theorem own : ownKnob Try.prog.godebug = none := by kernel_rfl
theorem cells5 : Try.prog.cellsOf 5 = 1 := by kernel_rfl
theorem contract (xs : List AV) (h : argsFit Try.prog [59, 22] xs) : CallsP Try.prog 7 xs (.bool true) := by
  obtain ⟨a0, r0, rfl, ⟨_, g0⟩, a1, r1, rfl, ⟨_, g1⟩, h9⟩ := h
  simp only [argsFit] at h9
  subst h9
  obtain ⟨dy, rfl⟩ := argOk_u16 Try.underlying59 g0
  obtain ⟨sc, rfl⟩ := argOk_u32 Try.underlying22 g1
  exact f7_ok dy sc
set_option maxRecDepth 100000 in
theorem lifted (os : Os) (started : os.Started) (H : Type) (enc : TypeId × Value → H) :
    ReturnsInHanded {} Try.checked os 7 .any (Rows.derDaysSpec.pre6 enc Try.prog Try.f7 Rows.derDaysRow.domain false) (Rows.derDaysSpec.post enc Try.prog Try.f7 false true false false) :=
  row_true (C := Try.checked) (fn := Try.f7) (s := Rows.derDaysSpec) [59, 22] 4 own started (by kernel_rfl) Try.func7
    (ChangeSpec.witness6 (enc := enc) (C := Try.checked) false ⟨#[], #[.int .u16 0, .int .u32 0], []⟩ 8 (by kernel_rfl) (by kernel_rfl) (by kernel_rfl) (by kernel_rfl))
    rfl rfl Try.underlying4 (by kernel_rfl) (by kernel_rfl) (by kernel_rfl) (by kernel_rfl) (by kernel_rfl)
    (fun ds hd => by
      match ds, hd with
      | [d0, d1], _ => rfl)
    (fun W g cs h => by cases h)
    contract
theorem over : Rows.derDaysRow.holds Try.pinned (OpenSpec.ofChange Rows.derDaysSpec) :=
  OpenClaim.holds_of_wide 7 Try.f7 rfl rfl rfl rfl rfl rfl rfl ⟨rfl, rfl, rfl, rfl, rfl⟩ rfl rfl rfl rfl rfl (by kernel_rfl) Try.func7 (by kernel_rfl)
    (of_decide_eq_true (by kernel_rfl)) (by unfold Func.isWrapper; first | (rw [if_pos (by decide +kernel)]; kernel_rfl) | (rw [if_neg (by decide +kernel)]; exact ⟨rfl, rfl⟩))
    (fun os started H enc _ => lifted os started H enc)
end Go.Proofs.Ytedjcbdhafmjiaa.derDays

namespace Go.Proofs.Ytedjcbdhafmjiaa
theorem derDays_holds : Rows.DerDaysSaid := derDays.over
end Go.Proofs.Ytedjcbdhafmjiaa
