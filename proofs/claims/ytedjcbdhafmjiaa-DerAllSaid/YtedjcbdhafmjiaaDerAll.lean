/- Proved: the law DerAll answers true for every bytes and stop: pieces gone over, up to the first fault; broken off, and again. No condition. -/
import Derived.Test.YtedjcbdhafmjiaaVsLift
import Derived.Test.YtedjcbdhafmjiaaVsCAll
import Derived.Test.YtedjcbdhafmjiaaRows
namespace Go.Proofs.Ytedjcbdhafmjiaa.derAll
open Go Go.VS Go.ChangeShapes Go.WideShapes Go.ChangeAt Go.RowKit
set_option linter.unusedVariables false
theorem own : ownKnob Try.prog.godebug = none := by kernel_rfl
theorem cells5 : Try.prog.cellsOf 5 = 1 := by kernel_rfl
theorem contract (xs : List AV) (h : argsFit Try.prog [25, 5] xs) : CallsP Try.prog 8 xs (.bool true) := by
  obtain ⟨a0, r0, rfl, ⟨_, g0⟩, a1, r1, rfl, ⟨_, g1⟩, h9⟩ := h
  simp only [argsFit] at h9
  subst h9
  obtain ⟨bsn, bs, rfl, bsh, bsl⟩ := argOk_bytes Try.underlying25 Try.underlying5 cells5 g0
  obtain ⟨st, rfl⟩ := argOk_u8 Try.underlying5 g1
  exact f8_ok bsn bs bsh st
set_option maxRecDepth 100000 in
theorem lifted (os : Os) (started : os.Started) (H : Type) (enc : TypeId × Value → H) :
    ReturnsInHanded {} Try.checked os 8 .any (Rows.derAllSpec.pre6 enc Try.prog Try.f8 Rows.derAllRow.domain false) (Rows.derAllSpec.post enc Try.prog Try.f8 false true false false) :=
  row_true (C := Try.checked) (fn := Try.f8) (s := Rows.derAllSpec) [25, 5] 4 own started (by kernel_rfl) Try.func8
    (ChangeSpec.witness6 (enc := enc) (C := Try.checked) false ⟨#[], #[.slice none 0 0, .int .u8 0], []⟩ 8 (by kernel_rfl) (by kernel_rfl) (by kernel_rfl) (by kernel_rfl))
    rfl rfl Try.underlying4 (by kernel_rfl) (by kernel_rfl) (by kernel_rfl) (by kernel_rfl) (by kernel_rfl)
    (fun ds hd => by
      match ds, hd with
      | [d0, d1], _ => rfl)
    (fun W g cs h => by cases h)
    contract
theorem over : Rows.derAllRow.holds Try.pinned (OpenSpec.ofChange Rows.derAllSpec) :=
  OpenClaim.holds_of_wide 8 Try.f8 rfl rfl rfl rfl rfl rfl rfl ⟨rfl, rfl, rfl, rfl, rfl⟩ rfl rfl rfl rfl rfl (by kernel_rfl) Try.func8 (by kernel_rfl)
    (of_decide_eq_true (by kernel_rfl)) (by unfold Func.isWrapper; first | (rw [if_pos (by decide +kernel)]; kernel_rfl) | (rw [if_neg (by decide +kernel)]; exact ⟨rfl, rfl⟩))
    (fun os started H enc _ => lifted os started H enc)
end Go.Proofs.Ytedjcbdhafmjiaa.derAll

namespace Go.Proofs.Ytedjcbdhafmjiaa
theorem derAll_holds : Rows.DerAllSaid := derAll.over
end Go.Proofs.Ytedjcbdhafmjiaa
