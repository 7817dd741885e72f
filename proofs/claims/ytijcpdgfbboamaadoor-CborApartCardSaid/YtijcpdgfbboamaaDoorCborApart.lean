/- Proved: the law CborApart answers true for any two plans: two items have one form just if they are the same. No condition beside the library's tables, which the card ties to the program's text. -/
import Derived.Test.YtijcpdgfbboamaaDoorVsTabs
import Derived.Test.YtijcpdgfbboamaaDoorVsCApart
import Derived.Test.YtijcpdgfbboamaaDoorTie
import Derived.Test.YtijcpdgfbboamaaDoorCards
namespace Go.Proofs.YtijcpdgfbboamaaDoor.cborApart
open Go Go.VS Go.ChangeShapes Go.WideShapes Go.ChangeAt Go.RowKit
set_option linter.unusedVariables false
theorem contract (xs : List AV) (h : argsFit Tryd.prog [28, 28] xs) : CallsP Tryd.prog 13 xs (.bool true) := by
  obtain ⟨a0, r0, rfl, ⟨_, g0⟩, a1, r1, rfl, ⟨_, g1⟩, h9⟩ := h
  simp only [argsFit] at h9
  subst h9
  obtain ⟨p, rfl, hp⟩ := plan_arg g0
  obtain ⟨q, rfl, hq⟩ := plan_arg g1
  exact f13_ok p q (hp 6) (hq 6)
set_option maxRecDepth 100000 in
theorem lifted (os : Os) (started : os.Started) (H : Type) (enc : TypeId × Value → H) :
    ReturnsInHanded {} Tryd.checked os 13 .any (fun w args => (Rows.cborApartSpec.pre enc Tryd.prog Tryd.f13 [] false w args ∧ laidMetH Tryd.prog doorLaid w) ∧ sizedMet enc Tryd.prog Tryd.f13 (OpenSpec.ofChange Rows.cborApartSpec) false w args) (Rows.cborApartSpec.post enc Tryd.prog Tryd.f13 false true false false) :=
  row_laid (C := Tryd.checked) (fn := Tryd.f13) (s := Rows.cborApartSpec) (laid := doorLaid) [28, 5, 25, 22, 26] 4 own started (by kernel_rfl) Tryd.func13
    (ChangeSpec.witness_at (enc := enc) (C := Tryd.checked) (os := os) (X := fun w _ => laidMetH Tryd.prog doorLaid w) false (laidWorld os) #[.agg #[.int .u8 0, .int .u64 0, .slice none 0 0, .slice none 0 0], .agg #[.int .u8 0, .int .u64 0, .slice none 0 0, .slice none 0 0]] 8 rfl (by kernel_rfl) (by kernel_rfl) (by kernel_rfl) (by kernel_rfl) (by kernel_rfl) (laid_met os _))
    rfl rfl Tryd.underlying4 (by kernel_rfl) (by kernel_rfl) (by kernel_rfl) (by kernel_rfl) (by kernel_rfl)
    (fun ds hd => by
      match ds, hd with
      | [d0, d1], _ => rfl)
    (by kernel_rfl) tabs contract
theorem over : Rows.cborApartRow.holds Tryd.pinned (OpenSpec.ofChange Rows.cborApartSpec) :=
  OpenClaim.holds_of_wide 13 Tryd.f13 rfl rfl rfl rfl rfl rfl rfl ⟨rfl, rfl, rfl, rfl, rfl⟩ rfl rfl rfl rfl rfl (by kernel_rfl) Tryd.func13 (by kernel_rfl)
    (of_decide_eq_true (by kernel_rfl)) (by unfold Func.isWrapper; first | (rw [if_pos (by decide +kernel)]; kernel_rfl) | (rw [if_neg (by decide +kernel)]; exact ⟨rfl, rfl⟩))
    (fun os started H enc _ => lifted os started H enc)
end Go.Proofs.YtijcpdgfbboamaaDoor.cborApart

namespace Go.Proofs.YtijcpdgfbboamaaDoor
open Go
theorem cborApart_holds : Rows.CborApartCardSaid :=
  Claim7.holds_tied_plain_at .later [] [.data, .pinned] true (true, "0ea03d1a677bc788a93009061205a22dd49ab6e1156d6c4c8c9fe83d5675116e") false
    cborApart.over (fun _ h => by cases h) (by kernel_rfl) (fun _ h => by cases h) cborApart_row_tie rfl ⟨rfl, rfl⟩ (by kernel_rfl) rfl
    (fun f fn hf hfn => by
      obtain rfl : f = 13 := Option.some.inj ((show Tryd.prog.funcNamed "latchkey/latchkeylaw06.CborApart" = some 13 by kernel_rfl).symm.trans hf) |>.symm
      obtain rfl : fn = Tryd.f13 := (Option.some.inj (Tryd.func13.symm.trans hfn)).symm
      exact ⟨by kernel_rfl, fun j t ht => by
        rw [Tryd.params13] at ht
        match j, ht with
        | 0, ht => obtain rfl := Option.some.inj ht; exact (show Tryd.prog.wantsStandIn 28 = false by kernel_rfl)
        | 1, ht => obtain rfl := Option.some.inj ht; exact (show Tryd.prog.wantsStandIn 28 = false by kernel_rfl)
        | j + 2, ht => simp at ht⟩)
    (by kernel_rfl)
end Go.Proofs.YtijcpdgfbboamaaDoor
