/- Proved: the law JsonsLimits answers true for any choice of what is made too great, and by how much. No condition beside the library's tables, which the card ties to the program's text. -/
import Derived.Test.YtfemncfhiihckaaDoorVsTabs
import Derived.Test.YtfemncfhiihckaaDoorVsLLim
import Derived.Test.YtfemncfhiihckaaDoorTie
import Derived.Test.YtfemncfhiihckaaDoorCards
namespace Go.Proofs.YtfemncfhiihckaaDoor.jsonsLimits
open Go Go.VS Go.ChangeShapes Go.WideShapes Go.ChangeAt Go.RowKit
set_option linter.unusedVariables false
theorem contract (xs : List AV) (h : argsFit Tryd.prog [5, 5] xs) : CallsP Tryd.prog 6 xs (.bool true) := by
  obtain ⟨a0, r0, rfl, ⟨_, g0⟩, a1, r1, rfl, ⟨_, g1⟩, h9⟩ := h
  simp only [argsFit] at h9
  subst h9
  obtain ⟨k, rfl⟩ := argOk_u8 Tryd.underlying5 g0
  obtain ⟨n, rfl⟩ := argOk_u8 Tryd.underlying5 g1
  exact f6_ok k n
set_option maxRecDepth 100000 in
theorem lifted (os : Os) (started : os.Started) (H : Type) (enc : TypeId × Value → H) :
    ReturnsInHanded {} Tryd.checked os 6 .any (fun w args => (Rows.jsonsLimitsSpec.pre enc Tryd.prog Tryd.f6 [] false w args ∧ laidMetH Tryd.prog doorLaid w) ∧ sizedMet enc Tryd.prog Tryd.f6 (OpenSpec.ofChange Rows.jsonsLimitsSpec) false w args) (Rows.jsonsLimitsSpec.post enc Tryd.prog Tryd.f6 false true false false) :=
  row_laid (C := Tryd.checked) (fn := Tryd.f6) (s := Rows.jsonsLimitsSpec) (laid := doorLaid) [5] 4 own started (by kernel_rfl) Tryd.func6
    (ChangeSpec.witness_at (enc := enc) (C := Tryd.checked) (os := os) (X := fun w _ => laidMetH Tryd.prog doorLaid w) false (laidWorld os) #[.int .u8 0, .int .u8 0] 8 rfl (by kernel_rfl) (by kernel_rfl) (by kernel_rfl) (by kernel_rfl) (by kernel_rfl) (laid_met os _))
    rfl rfl Tryd.underlying4 (by kernel_rfl) (by kernel_rfl) (by kernel_rfl) (by kernel_rfl) (by kernel_rfl)
    (fun ds hd => by
      match ds, hd with
      | [d0, d1], _ => rfl)
    (by kernel_rfl) tabs contract
theorem over : Rows.jsonsLimitsRow.holds Tryd.pinned (OpenSpec.ofChange Rows.jsonsLimitsSpec) :=
  OpenClaim.holds_of_wide 6 Tryd.f6 rfl rfl rfl rfl rfl rfl rfl ⟨rfl, rfl, rfl, rfl, rfl⟩ rfl rfl rfl rfl rfl (by kernel_rfl) Tryd.func6 (by kernel_rfl)
    (of_decide_eq_true (by kernel_rfl)) (by unfold Func.isWrapper; first | (rw [if_pos (by decide +kernel)]; kernel_rfl) | (rw [if_neg (by decide +kernel)]; exact ⟨rfl, rfl⟩))
    (fun os started H enc _ => lifted os started H enc)
end Go.Proofs.YtfemncfhiihckaaDoor.jsonsLimits

namespace Go.Proofs.YtfemncfhiihckaaDoor
open Go
theorem jsonsLimits_holds : Rows.JsonsLimitsCardSaid :=
  Claim7.holds_tied_plain_at .later [] [.data, .pinned] true (true, "83a82b3b44d389b09a94f50fb0570c4fa1a744f6f442abd46469baffe4ccd8d8") false
    jsonsLimits.over (fun _ h => by cases h) (by kernel_rfl) (fun _ h => by cases h) jsonsLimits_row_tie rfl ⟨rfl, rfl⟩ (by kernel_rfl) rfl
    (fun f fn hf hfn => by
      obtain rfl : f = 6 := Option.some.inj ((show Tryd.prog.funcNamed "latchkey/latchkeylaw05.JsonsLimits" = some 6 by kernel_rfl).symm.trans hf) |>.symm
      obtain rfl : fn = Tryd.f6 := (Option.some.inj (Tryd.func6.symm.trans hfn)).symm
      exact ⟨by kernel_rfl, fun j t ht => by
        rw [Tryd.params6] at ht
        match j, ht with
        | 0, ht => obtain rfl := Option.some.inj ht; exact (show Tryd.prog.wantsStandIn 5 = false by kernel_rfl)
        | 1, ht => obtain rfl := Option.some.inj ht; exact (show Tryd.prog.wantsStandIn 5 = false by kernel_rfl)
        | j + 2, ht => simp at ht⟩)
    (by kernel_rfl)
end Go.Proofs.YtfemncfhiihckaaDoor
