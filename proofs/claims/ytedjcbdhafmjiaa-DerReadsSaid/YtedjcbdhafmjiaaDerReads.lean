/- Proved: the law DerReads answers true for every bytes: the first piece, all pieces, a sequence. No condition. -/
import Derived.Test.YtedjcbdhafmjiaaVsLift
import Derived.Test.YtedjcbdhafmjiaaVsCReads
import Derived.Test.YtedjcbdhafmjiaaRows
namespace Go.Proofs.Ytedjcbdhafmjiaa.derReads
open Go Go.VS Go.ChangeShapes Go.WideShapes Go.ChangeAt Go.RowKit
set_option linter.unusedVariables false
theorem own : ownKnob Try.prog.godebug = none := by kernel_rfl
theorem cells5 : Try.prog.cellsOf 5 = 1 := by kernel_rfl
theorem contract (xs : List AV) (h : argsFit Try.prog [25] xs) : CallsP Try.prog 12 xs (.bool true) := by
  obtain ⟨a0, r0, rfl, ⟨_, g0⟩, h9⟩ := h
  simp only [argsFit] at h9
  subst h9
  obtain ⟨bsn, bs, rfl, bsh, bsl⟩ := argOk_bytes Try.underlying25 Try.underlying5 cells5 g0
  exact f12_ok bsn bs bsh
set_option maxRecDepth 100000 in
theorem lifted (os : Os) (started : os.Started) (H : Type) (enc : TypeId × Value → H) :
    ReturnsInHanded {} Try.checked os 12 .any (Rows.derReadsSpec.pre6 enc Try.prog Try.f12 Rows.derReadsRow.domain false) (Rows.derReadsSpec.post enc Try.prog Try.f12 false true false false) :=
  row_true (C := Try.checked) (fn := Try.f12) (s := Rows.derReadsSpec) [25, 5] 4 own started (by kernel_rfl) Try.func12
    (ChangeSpec.witness6 (enc := enc) (C := Try.checked) false ⟨#[], #[.slice none 0 0], []⟩ 8 (by kernel_rfl) (by kernel_rfl) (by kernel_rfl) (by kernel_rfl))
    rfl rfl Try.underlying4 (by kernel_rfl) (by kernel_rfl) (by kernel_rfl) (by kernel_rfl) (by kernel_rfl)
    (fun ds hd => by
      match ds, hd with
      | [d0], _ => rfl)
    (fun W g cs h => by cases h)
    contract
theorem over : Rows.derReadsRow.holds Try.pinned (OpenSpec.ofChange Rows.derReadsSpec) :=
  OpenClaim.holds_of_wide 12 Try.f12 rfl rfl rfl rfl rfl rfl rfl ⟨rfl, rfl, rfl, rfl, rfl⟩ rfl rfl rfl rfl rfl (by kernel_rfl) Try.func12 (by kernel_rfl)
    (of_decide_eq_true (by kernel_rfl)) (by unfold Func.isWrapper; first | (rw [if_pos (by decide +kernel)]; kernel_rfl) | (rw [if_neg (by decide +kernel)]; exact ⟨rfl, rfl⟩))
    (fun os started H enc _ => lifted os started H enc)
end Go.Proofs.Ytedjcbdhafmjiaa.derReads

namespace Go.Proofs.Ytedjcbdhafmjiaa
theorem derReads_holds : Rows.DerReadsSaid := derReads.over
end Go.Proofs.Ytedjcbdhafmjiaa
