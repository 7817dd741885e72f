/- Proved: the law JsonsJoins answers true for any two values. No condition beside the library's tables, which the card ties to the program's text. -/
import Derived.Test.YtfemncfhiihckaaDoorVsTabs
import Derived.Test.YtfemncfhiihckaaDoorVsQJoin
import Derived.Test.YtfemncfhiihckaaDoorVsMArg
import Derived.Test.YtfemncfhiihckaaDoorVsLSame
import Derived.Test.YtfemncfhiihckaaDoorTie
import Derived.Test.YtfemncfhiihckaaDoorCards
namespace Go.Proofs.YtfemncfhiihckaaDoor.jsonsJoins
open Go Go.VS Go.ChangeShapes Go.WideShapes Go.ChangeAt Go.RowKit
set_option linter.unusedVariables false
theorem contract (xs : List AV) (h : argsFit Tryd.prog [24, 24] xs) : CallsP Tryd.prog 7 xs (.bool true) := by
  obtain ⟨a0, r0, rfl, ⟨_, g0⟩, a1, r1, rfl, ⟨_, g1⟩, h9⟩ := h
  simp only [argsFit] at h9
  subst h9
  obtain ⟨v, rfl, hv⟩ := value_arg _ _ _ (Nat.le_refl _) g0
  obtain ⟨w, rfl, hw⟩ := value_arg _ _ _ (Nat.le_refl _) g1
  exact f7_ok (fun l n1 n2 a b => f18_same l n1 n2 a b) v w (hv 5) (hw 5)
set_option maxRecDepth 100000 in
theorem lifted (os : Os) (started : os.Started) (H : Type) (enc : TypeId × Value → H) :
    ReturnsInHanded {} Tryd.checked os 7 .any (fun w args => (Rows.jsonsJoinsSpec.pre enc Tryd.prog Tryd.f7 [] false w args ∧ laidMetH Tryd.prog doorLaid w) ∧ sizedMet enc Tryd.prog Tryd.f7 (OpenSpec.ofChange Rows.jsonsJoinsSpec) false w args) (Rows.jsonsJoinsSpec.post enc Tryd.prog Tryd.f7 false true false false) :=
  row_laid (C := Tryd.checked) (fn := Tryd.f7) (s := Rows.jsonsJoinsSpec) (laid := doorLaid) [24, 5, 9, 22] 4 own started (by kernel_rfl) Tryd.func7
    (ChangeSpec.witness_at (enc := enc) (C := Tryd.checked) (os := os) (X := fun w _ => laidMetH Tryd.prog doorLaid w) false (laidWorld os) #[.agg #[.int .u8 0, .string (ByteArray.mk #[]), .slice none 0 0], .agg #[.int .u8 0, .string (ByteArray.mk #[]), .slice none 0 0]] 8 rfl (by kernel_rfl) (by kernel_rfl) (by kernel_rfl) (by kernel_rfl) (by kernel_rfl) (laid_met os _))
    rfl rfl Tryd.underlying4 (by kernel_rfl) (by kernel_rfl) (by kernel_rfl) (by kernel_rfl) (by kernel_rfl)
    (fun ds hd => by
      match ds, hd with
      | [d0, d1], _ => rfl)
    (by kernel_rfl) tabs contract
theorem over : Rows.jsonsJoinsRow.holds Tryd.pinned (OpenSpec.ofChange Rows.jsonsJoinsSpec) :=
  OpenClaim.holds_of_wide 7 Tryd.f7 rfl rfl rfl rfl rfl rfl rfl ⟨rfl, rfl, rfl, rfl, rfl⟩ rfl rfl rfl rfl rfl (by kernel_rfl) Tryd.func7 (by kernel_rfl)
    (of_decide_eq_true (by kernel_rfl)) (by unfold Func.isWrapper; first | (rw [if_pos (by decide +kernel)]; kernel_rfl) | (rw [if_neg (by decide +kernel)]; exact ⟨rfl, rfl⟩))
    (fun os started H enc _ => lifted os started H enc)
end Go.Proofs.YtfemncfhiihckaaDoor.jsonsJoins

namespace Go.Proofs.YtfemncfhiihckaaDoor
open Go
theorem jsonsJoins_holds : Rows.JsonsJoinsCardSaid :=
  Claim7.holds_tied_plain_at .later [] [.data, .pinned] true (true, "83a82b3b44d389b09a94f50fb0570c4fa1a744f6f442abd46469baffe4ccd8d8") false
    jsonsJoins.over (fun _ h => by cases h) (by kernel_rfl) (fun _ h => by cases h) jsonsJoins_row_tie rfl ⟨rfl, rfl⟩ (by kernel_rfl) rfl
    (fun f fn hf hfn => by
      obtain rfl : f = 7 := Option.some.inj ((show Tryd.prog.funcNamed "latchkey/latchkeylaw05.JsonsJoins" = some 7 by kernel_rfl).symm.trans hf) |>.symm
      obtain rfl : fn = Tryd.f7 := (Option.some.inj (Tryd.func7.symm.trans hfn)).symm
      exact ⟨by kernel_rfl, fun j t ht => by
        rw [Tryd.params7] at ht
        match j, ht with
        | 0, ht => obtain rfl := Option.some.inj ht; exact (show Tryd.prog.wantsStandIn 24 = false by kernel_rfl)
        | 1, ht => obtain rfl := Option.some.inj ht; exact (show Tryd.prog.wantsStandIn 24 = false by kernel_rfl)
        | j + 2, ht => simp at ht⟩)
    (by kernel_rfl)
end Go.Proofs.YtfemncfhiihckaaDoor
