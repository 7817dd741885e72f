/- Proved: the law JsonsTurned answers true for any value, any gap, any places and any turns. No condition beside the library's tables, which the card ties to the program's text. -/
import Derived.Test.YtfemncfhiihckaaDoorVsTabs
import Derived.Test.YtfemncfhiihckaaDoorVsMTurn
import Derived.Test.YtfemncfhiihckaaDoorVsMArg
import Derived.Test.YtfemncfhiihckaaDoorVsLTold
import Derived.Test.YtfemncfhiihckaaDoorTie
import Derived.Test.YtfemncfhiihckaaDoorCards
namespace Go.Proofs.YtfemncfhiihckaaDoor.jsonsTurned
open Go Go.VS Go.ChangeShapes Go.WideShapes Go.ChangeAt Go.RowKit
set_option linter.unusedVariables false
theorem contract (xs : List AV) (h : argsFit Tryd.prog [24, 5, 25, 26] xs) : CallsP Tryd.prog 3 xs (.bool true) := by
  obtain ⟨a0, r0, rfl, ⟨_, g0⟩, a1, r1, rfl, ⟨_, g1⟩, a2, r2, rfl, ⟨_, g2⟩, a3, r3, rfl, ⟨_, g3⟩, h9⟩ := h
  simp only [argsFit] at h9
  subst h9
  obtain ⟨v, rfl, hv⟩ := value_arg _ _ _ (Nat.le_refl _) g0
  obtain ⟨k, rfl⟩ := argOk_u8 Tryd.underlying5 g1
  obtain ⟨na, zs, rfl, hz⟩ := ints_arg g2
  obtain ⟨nb, ts, rfl, _, ht⟩ := argOk_bytes Tryd.underlying26 Tryd.underlying5 (by kernel_rfl) g3
  exact f3_ok (fun b hb => f16_ok b false hb) v (hv 6) k na zs nb ts hz ht
set_option maxRecDepth 100000 in
theorem lifted (os : Os) (started : os.Started) (H : Type) (enc : TypeId × Value → H) :
    ReturnsInHanded {} Tryd.checked os 3 .any (fun w args => (Rows.jsonsTurnedSpec.pre enc Tryd.prog Tryd.f3 [] false w args ∧ laidMetH Tryd.prog doorLaid w) ∧ sizedMet enc Tryd.prog Tryd.f3 (OpenSpec.ofChange Rows.jsonsTurnedSpec) false w args) (Rows.jsonsTurnedSpec.post enc Tryd.prog Tryd.f3 false true false false) :=
  row_laid (C := Tryd.checked) (fn := Tryd.f3) (s := Rows.jsonsTurnedSpec) (laid := doorLaid) [24, 5, 9, 22, 25, 3, 26] 4 own started (by kernel_rfl) Tryd.func3
    (ChangeSpec.witness_at (enc := enc) (C := Tryd.checked) (os := os) (X := fun w _ => laidMetH Tryd.prog doorLaid w) false (laidWorld os) #[.agg #[.int .u8 0, .string (ByteArray.mk #[]), .slice none 0 0], .int .u8 0, .slice none 0 0, .slice none 0 0] 8 rfl (by kernel_rfl) (by kernel_rfl) (by kernel_rfl) (by kernel_rfl) (by kernel_rfl) (laid_met os _))
    rfl rfl Tryd.underlying4 (by kernel_rfl) (by kernel_rfl) (by kernel_rfl) (by kernel_rfl) (by kernel_rfl)
    (fun ds hd => by
      match ds, hd with
      | [d0, d1, d2, d3], _ => rfl)
    (by kernel_rfl) tabs contract
theorem over : Rows.jsonsTurnedRow.holds Tryd.pinned (OpenSpec.ofChange Rows.jsonsTurnedSpec) :=
  OpenClaim.holds_of_wide 3 Tryd.f3 rfl rfl rfl rfl rfl rfl rfl ⟨rfl, rfl, rfl, rfl, rfl⟩ rfl rfl rfl rfl rfl (by kernel_rfl) Tryd.func3 (by kernel_rfl)
    (of_decide_eq_true (by kernel_rfl)) (by unfold Func.isWrapper; first | (rw [if_pos (by decide +kernel)]; kernel_rfl) | (rw [if_neg (by decide +kernel)]; exact ⟨rfl, rfl⟩))
    (fun os started H enc _ => lifted os started H enc)
end Go.Proofs.YtfemncfhiihckaaDoor.jsonsTurned

namespace Go.Proofs.YtfemncfhiihckaaDoor
open Go
theorem jsonsTurned_holds : Rows.JsonsTurnedCardSaid :=
  Claim7.holds_tied_plain_at .later [] [.data, .pinned] true (true, "83a82b3b44d389b09a94f50fb0570c4fa1a744f6f442abd46469baffe4ccd8d8") false
    jsonsTurned.over (fun _ h => by cases h) (by kernel_rfl) (fun _ h => by cases h) jsonsTurned_row_tie rfl ⟨rfl, rfl⟩ (by kernel_rfl) rfl
    (fun f fn hf hfn => by
      obtain rfl : f = 3 := Option.some.inj ((show Tryd.prog.funcNamed "latchkey/latchkeylaw05.JsonsTurned" = some 3 by kernel_rfl).symm.trans hf) |>.symm
      obtain rfl : fn = Tryd.f3 := (Option.some.inj (Tryd.func3.symm.trans hfn)).symm
      exact ⟨by kernel_rfl, fun j t ht => by
        rw [Tryd.params3] at ht
        match j, ht with
        | 0, ht => obtain rfl := Option.some.inj ht; exact (show Tryd.prog.wantsStandIn 24 = false by kernel_rfl)
        | 1, ht => obtain rfl := Option.some.inj ht; exact (show Tryd.prog.wantsStandIn 5 = false by kernel_rfl)
        | 2, ht => obtain rfl := Option.some.inj ht; exact (show Tryd.prog.wantsStandIn 25 = false by kernel_rfl)
        | 3, ht => obtain rfl := Option.some.inj ht; exact (show Tryd.prog.wantsStandIn 26 = false by kernel_rfl)
        | j + 4, ht => simp at ht⟩)
    (by kernel_rfl)
end Go.Proofs.YtfemncfhiihckaaDoor
