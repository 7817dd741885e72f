/- Proved: the law CborBack answers true for any plan and any bytes: a right item's form, with anything behind it, is read as the item and what is behind; what is read is written as it was. No condition beside the library's tables, which the card ties to the program's text. -/
import Derived.Test.YtijcpdgfbboamaaDoorVsTabs
import Derived.Test.YtijcpdgfbboamaaDoorVsCBack
import Derived.Test.YtijcpdgfbboamaaDoorVsCArgs
import Derived.Test.YtijcpdgfbboamaaDoorTie
import Derived.Test.YtijcpdgfbboamaaDoorCards
namespace Go.Proofs.YtijcpdgfbboamaaDoor.cborBack
open Go Go.VS Go.ChangeShapes Go.WideShapes Go.ChangeAt Go.RowKit
set_option linter.unusedVariables false
theorem contract (xs : List AV) (h : argsFit Tryd.prog [28, 22] xs) : CallsP Tryd.prog 8 xs (.bool true) := by
  obtain ⟨a0, r0, rfl, ⟨_, g0⟩, a1, r1, rfl, ⟨_, g1⟩, h9⟩ := h
  simp only [argsFit] at h9
  subst h9
  obtain ⟨p, rfl, hp⟩ := plan_arg g0
  obtain ⟨nb, b, rfl, hb, _⟩ := argOk_bytes Tryd.underlying22 Tryd.underlying5 dcells5 g1
  exact f8_ok p (hp 6) nb b hb
set_option maxRecDepth 100000 in
theorem lifted (os : Os) (started : os.Started) (H : Type) (enc : TypeId × Value → H) :
    ReturnsInHanded {} Tryd.checked os 8 .any (fun w args => (Rows.cborBackSpec.pre enc Tryd.prog Tryd.f8 [] false w args ∧ laidMetH Tryd.prog doorLaid w) ∧ sizedMet enc Tryd.prog Tryd.f8 (OpenSpec.ofChange Rows.cborBackSpec) false w args) (Rows.cborBackSpec.post enc Tryd.prog Tryd.f8 false true false false) :=
  row_laid (C := Tryd.checked) (fn := Tryd.f8) (s := Rows.cborBackSpec) (laid := doorLaid) [28, 5, 25, 22, 26] 4 own started (by kernel_rfl) Tryd.func8
    (ChangeSpec.witness_at (enc := enc) (C := Tryd.checked) (os := os) (X := fun w _ => laidMetH Tryd.prog doorLaid w) false (laidWorld os) #[.agg #[.int .u8 0, .int .u64 0, .slice none 0 0, .slice none 0 0], .slice none 0 0] 8 rfl (by kernel_rfl) (by kernel_rfl) (by kernel_rfl) (by kernel_rfl) (by kernel_rfl) (laid_met os _))
    rfl rfl Tryd.underlying4 (by kernel_rfl) (by kernel_rfl) (by kernel_rfl) (by kernel_rfl) (by kernel_rfl)
    (fun ds hd => by
      match ds, hd with
      | [d0, d1], _ => rfl)
    (by kernel_rfl) tabs contract
theorem over : Rows.cborBackRow.holds Tryd.pinned (OpenSpec.ofChange Rows.cborBackSpec) :=
  OpenClaim.holds_of_wide 8 Tryd.f8 rfl rfl rfl rfl rfl rfl rfl ⟨rfl, rfl, rfl, rfl, rfl⟩ rfl rfl rfl rfl rfl (by kernel_rfl) Tryd.func8 (by kernel_rfl)
    (of_decide_eq_true (by kernel_rfl)) (by unfold Func.isWrapper; first | (rw [if_pos (by decide +kernel)]; kernel_rfl) | (rw [if_neg (by decide +kernel)]; exact ⟨rfl, rfl⟩))
    (fun os started H enc _ => lifted os started H enc)
end Go.Proofs.YtijcpdgfbboamaaDoor.cborBack

namespace Go.Proofs.YtijcpdgfbboamaaDoor
open Go
theorem cborBack_holds : Rows.CborBackCardSaid :=
  Claim7.holds_tied_plain_at .later [] [.data, .pinned] true (true, "0ea03d1a677bc788a93009061205a22dd49ab6e1156d6c4c8c9fe83d5675116e") false
    cborBack.over (fun _ h => by cases h) (by kernel_rfl) (fun _ h => by cases h) cborBack_row_tie rfl ⟨rfl, rfl⟩ (by kernel_rfl) rfl
    (fun f fn hf hfn => by
      obtain rfl : f = 8 := Option.some.inj ((show Tryd.prog.funcNamed "latchkey/latchkeylaw06.CborBack" = some 8 by kernel_rfl).symm.trans hf) |>.symm
      obtain rfl : fn = Tryd.f8 := (Option.some.inj (Tryd.func8.symm.trans hfn)).symm
      exact ⟨by kernel_rfl, fun j t ht => by
        rw [Tryd.params8] at ht
        match j, ht with
        | 0, ht => obtain rfl := Option.some.inj ht; exact (show Tryd.prog.wantsStandIn 28 = false by kernel_rfl)
        | 1, ht => obtain rfl := Option.some.inj ht; exact (show Tryd.prog.wantsStandIn 22 = false by kernel_rfl)
        | j + 2, ht => simp at ht⟩)
    (by kernel_rfl)
end Go.Proofs.YtijcpdgfbboamaaDoor
