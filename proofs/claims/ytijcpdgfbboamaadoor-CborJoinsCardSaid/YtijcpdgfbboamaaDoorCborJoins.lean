/- Proved: the law CborJoins answers true for any plans: an array's form is its head and its kids' forms; they are read one by one. No condition beside the library's tables, which the card ties to the program's text. -/
import Derived.Test.YtijcpdgfbboamaaDoorVsTabs
import Derived.Test.YtijcpdgfbboamaaDoorVsCJoins
import Derived.Test.YtijcpdgfbboamaaDoorTie
import Derived.Test.YtijcpdgfbboamaaDoorCards
namespace Go.Proofs.YtijcpdgfbboamaaDoor.cborJoins
open Go Go.VS Go.ChangeShapes Go.WideShapes Go.ChangeAt Go.RowKit
set_option linter.unusedVariables false
theorem contract (xs : List AV) (h : argsFit Tryd.prog [26] xs) : CallsP Tryd.prog 12 xs (.bool true) := by
  obtain ⟨a0, r0, rfl, ⟨_, g0⟩, h9⟩ := h
  simp only [argsFit] at h9
  subst h9
  obtain ⟨nb, ps, rfl, hl, hp⟩ := plans_arg g0
  exact f12_ok ps hl nb (fun p h => hp p h 4)
set_option maxRecDepth 100000 in
theorem lifted (os : Os) (started : os.Started) (H : Type) (enc : TypeId × Value → H) :
    ReturnsInHanded {} Tryd.checked os 12 .any (fun w args => (Rows.cborJoinsSpec.pre enc Tryd.prog Tryd.f12 [] false w args ∧ laidMetH Tryd.prog doorLaid w) ∧ sizedMet enc Tryd.prog Tryd.f12 (OpenSpec.ofChange Rows.cborJoinsSpec) false w args) (Rows.cborJoinsSpec.post enc Tryd.prog Tryd.f12 false true false false) :=
  row_laid (C := Tryd.checked) (fn := Tryd.f12) (s := Rows.cborJoinsSpec) (laid := doorLaid) [28, 5, 25, 22, 26] 4 own started (by kernel_rfl) Tryd.func12
    (ChangeSpec.witness_at (enc := enc) (C := Tryd.checked) (os := os) (X := fun w _ => laidMetH Tryd.prog doorLaid w) false (laidWorld os) #[.slice none 0 0] 8 rfl (by kernel_rfl) (by kernel_rfl) (by kernel_rfl) (by kernel_rfl) (by kernel_rfl) (laid_met os _))
    rfl rfl Tryd.underlying4 (by kernel_rfl) (by kernel_rfl) (by kernel_rfl) (by kernel_rfl) (by kernel_rfl)
    (fun ds hd => by
      match ds, hd with
      | [d0], _ => rfl)
    (by kernel_rfl) tabs contract
theorem over : Rows.cborJoinsRow.holds Tryd.pinned (OpenSpec.ofChange Rows.cborJoinsSpec) :=
  OpenClaim.holds_of_wide 12 Tryd.f12 rfl rfl rfl rfl rfl rfl rfl ⟨rfl, rfl, rfl, rfl, rfl⟩ rfl rfl rfl rfl rfl (by kernel_rfl) Tryd.func12 (by kernel_rfl)
    (of_decide_eq_true (by kernel_rfl)) (by unfold Func.isWrapper; first | (rw [if_pos (by decide +kernel)]; kernel_rfl) | (rw [if_neg (by decide +kernel)]; exact ⟨rfl, rfl⟩))
    (fun os started H enc _ => lifted os started H enc)
end Go.Proofs.YtijcpdgfbboamaaDoor.cborJoins

namespace Go.Proofs.YtijcpdgfbboamaaDoor
open Go
theorem cborJoins_holds : Rows.CborJoinsCardSaid :=
  Claim7.holds_tied_plain_at .later [] [.data, .pinned] true (true, "0ea03d1a677bc788a93009061205a22dd49ab6e1156d6c4c8c9fe83d5675116e") false
    cborJoins.over (fun _ h => by cases h) (by kernel_rfl) (fun _ h => by cases h) cborJoins_row_tie rfl ⟨rfl, rfl⟩ (by kernel_rfl) rfl
    (fun f fn hf hfn => by
      obtain rfl : f = 12 := Option.some.inj ((show Tryd.prog.funcNamed "latchkey/latchkeylaw06.CborJoins" = some 12 by kernel_rfl).symm.trans hf) |>.symm
      obtain rfl : fn = Tryd.f12 := (Option.some.inj (Tryd.func12.symm.trans hfn)).symm
      exact ⟨by kernel_rfl, fun j t ht => by
        rw [Tryd.params12] at ht
        match j, ht with
        | 0, ht => obtain rfl := Option.some.inj ht; exact (show Tryd.prog.wantsStandIn 26 = false by kernel_rfl)
        | j + 1, ht => simp at ht⟩)
    (by kernel_rfl)
end Go.Proofs.YtijcpdgfbboamaaDoor
