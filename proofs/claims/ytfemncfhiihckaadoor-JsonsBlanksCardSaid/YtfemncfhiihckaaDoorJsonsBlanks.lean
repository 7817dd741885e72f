/- Proved: the law JsonsBlanks answers true for any value and any gap. No condition beside the library's tables, which the card ties to the program's text. -/
import Derived.Test.YtfemncfhiihckaaDoorVsTabs
import Derived.Test.YtfemncfhiihckaaDoorVsQBlank
import Derived.Test.YtfemncfhiihckaaDoorVsMArg
import Derived.Test.YtfemncfhiihckaaDoorVsLSame
import Derived.Test.YtfemncfhiihckaaDoorTie
import Derived.Test.YtfemncfhiihckaaDoorCards
namespace Go.Proofs.YtfemncfhiihckaaDoor.jsonsBlanks
open Go Go.VS Go.ChangeShapes Go.WideShapes Go.ChangeAt Go.RowKit
set_option linter.unusedVariables false
theorem contract (xs : List AV) (h : argsFit Tryd.prog [24, 5] xs) : CallsP Tryd.prog 4 xs (.bool true) := by
  obtain ⟨a0, r0, rfl, ⟨_, g0⟩, a1, r1, rfl, ⟨_, g1⟩, h9⟩ := h
  simp only [argsFit] at h9
  subst h9
  obtain ⟨v, rfl, hv⟩ := value_arg _ _ _ (Nat.le_refl _) g0
  obtain ⟨k, rfl⟩ := argOk_u8 Tryd.underlying5 g1
  exact f4_ok (fun b => f18_same _ _ _ (by have := parse_many b; omega) (parse_small b)) v (hv 6) k
set_option maxRecDepth 100000 in
theorem lifted (os : Os) (started : os.Started) (H : Type) (enc : TypeId × Value → H) :
    ReturnsInHanded {} Tryd.checked os 4 .any (fun w args => (Rows.jsonsBlanksSpec.pre enc Tryd.prog Tryd.f4 [] false w args ∧ laidMetH Tryd.prog doorLaid w) ∧ sizedMet enc Tryd.prog Tryd.f4 (OpenSpec.ofChange Rows.jsonsBlanksSpec) false w args) (Rows.jsonsBlanksSpec.post enc Tryd.prog Tryd.f4 false true false false) :=
  row_laid (C := Tryd.checked) (fn := Tryd.f4) (s := Rows.jsonsBlanksSpec) (laid := doorLaid) [24, 5, 9, 22] 4 own started (by kernel_rfl) Tryd.func4
    (ChangeSpec.witness_at (enc := enc) (C := Tryd.checked) (os := os) (X := fun w _ => laidMetH Tryd.prog doorLaid w) false (laidWorld os) #[.agg #[.int .u8 0, .string (ByteArray.mk #[]), .slice none 0 0], .int .u8 0] 8 rfl (by kernel_rfl) (by kernel_rfl) (by kernel_rfl) (by kernel_rfl) (by kernel_rfl) (laid_met os _))
    rfl rfl Tryd.underlying4 (by kernel_rfl) (by kernel_rfl) (by kernel_rfl) (by kernel_rfl) (by kernel_rfl)
    (fun ds hd => by
      match ds, hd with
      | [d0, d1], _ => rfl)
    (by kernel_rfl) tabs contract
theorem over : Rows.jsonsBlanksRow.holds Tryd.pinned (OpenSpec.ofChange Rows.jsonsBlanksSpec) :=
  OpenClaim.holds_of_wide 4 Tryd.f4 rfl rfl rfl rfl rfl rfl rfl ⟨rfl, rfl, rfl, rfl, rfl⟩ rfl rfl rfl rfl rfl (by kernel_rfl) Tryd.func4 (by kernel_rfl)
    (of_decide_eq_true (by kernel_rfl)) (by unfold Func.isWrapper; first | (rw [if_pos (by decide +kernel)]; kernel_rfl) | (rw [if_neg (by decide +kernel)]; exact ⟨rfl, rfl⟩))
    (fun os started H enc _ => lifted os started H enc)
end Go.Proofs.YtfemncfhiihckaaDoor.jsonsBlanks

namespace Go.Proofs.YtfemncfhiihckaaDoor
open Go
theorem jsonsBlanks_holds : Rows.JsonsBlanksCardSaid :=
  Claim7.holds_tied_plain_at .later [] [.data, .pinned] true (true, "83a82b3b44d389b09a94f50fb0570c4fa1a744f6f442abd46469baffe4ccd8d8") false
    jsonsBlanks.over (fun _ h => by cases h) (by kernel_rfl) (fun _ h => by cases h) jsonsBlanks_row_tie rfl ⟨rfl, rfl⟩ (by kernel_rfl) rfl
    (fun f fn hf hfn => by
      obtain rfl : f = 4 := Option.some.inj ((show Tryd.prog.funcNamed "latchkey/latchkeylaw05.JsonsBlanks" = some 4 by kernel_rfl).symm.trans hf) |>.symm
      obtain rfl : fn = Tryd.f4 := (Option.some.inj (Tryd.func4.symm.trans hfn)).symm
      exact ⟨by kernel_rfl, fun j t ht => by
        rw [Tryd.params4] at ht
        match j, ht with
        | 0, ht => obtain rfl := Option.some.inj ht; exact (show Tryd.prog.wantsStandIn 24 = false by kernel_rfl)
        | 1, ht => obtain rfl := Option.some.inj ht; exact (show Tryd.prog.wantsStandIn 5 = false by kernel_rfl)
        | j + 2, ht => simp at ht⟩)
    (by kernel_rfl)
end Go.Proofs.YtfemncfhiihckaaDoor
