/- Proved: the law AuthdWrites answers true for anything that may be said: it is written as the document says. No condition beside the library's tables, which the card ties to the program's text. -/
import Derived.Test.YtijcpdgfbboamaaDoorVsTabs
import Derived.Test.YtijcpdgfbboamaaDoorVsDWrites
import Derived.Test.YtijcpdgfbboamaaDoorVsDArg2
import Derived.Test.YtijcpdgfbboamaaDoorVsCEncV
import Derived.Test.YtijcpdgfbboamaaDoorTie
import Derived.Test.YtijcpdgfbboamaaDoorCards
namespace Go.Proofs.YtijcpdgfbboamaaDoor.authdWrites
open Go Go.VS Go.ChangeShapes Go.WideShapes Go.ChangeAt Go.RowKit
set_option linter.unusedVariables false
theorem contract (xs : List AV) (h : argsFit Tryd.prog [48, 28, 28, 5] xs) : CallsP Tryd.prog 14 xs (.bool true) := by
  obtain ⟨a0, r0, rfl, ⟨_, g0⟩, a1, r1, rfl, ⟨_, g1⟩, a2, r2, rfl, ⟨_, g2⟩, a3, r3, rfl, ⟨_, g3⟩, h9⟩ := h
  simp only [argsFit] at h9
  subst h9
  obtain ⟨d, rfl, hd⟩ := ad_arg g0
  obtain ⟨p, rfl, hp⟩ := plan_arg g1
  obtain ⟨q, rfl, hq⟩ := plan_arg g2
  obtain ⟨sz, rfl⟩ := argOk_u8 Tryd.underlying5 g3
  exact f14_ok valid_okD validI d hd p q (hp 5) (hq 4) sz
set_option maxRecDepth 100000 in
theorem lifted (os : Os) (started : os.Started) (H : Type) (enc : TypeId × Value → H) :
    ReturnsInHanded {} Tryd.checked os 14 .any (fun w args => (Rows.authdWritesSpec.pre enc Tryd.prog Tryd.f14 [] false w args ∧ laidMetH Tryd.prog doorLaid w) ∧ sizedMet enc Tryd.prog Tryd.f14 (OpenSpec.ofChange Rows.authdWritesSpec) false w args) (Rows.authdWritesSpec.post enc Tryd.prog Tryd.f14 false true false false) :=
  row_laid (C := Tryd.checked) (fn := Tryd.f14) (s := Rows.authdWritesSpec) (laid := doorLaid) [48, 43, 4, 44, 46, 22, 35, 32, 25, 33, 28, 26, 5] 4 own started (by kernel_rfl) Tryd.func14
    (ChangeSpec.witness_at (enc := enc) (C := Tryd.checked) (os := os) (X := fun w _ => laidMetH Tryd.prog doorLaid w) false (laidWorld os) #[.agg (Array.replicate 32 (.int .u8 0) ++ #[.bool false, .bool false, .bool false, .int .u32 0] ++ Array.replicate 16 (.int .u8 0) ++ #[.slice none 0 0, .int .u8 0, .int .u64 0, .slice none 0 0, .slice none 0 0, .int .u8 0, .int .u64 0, .slice none 0 0, .slice none 0 0]), .agg #[.int .u8 0, .int .u64 0, .slice none 0 0, .slice none 0 0], .agg #[.int .u8 0, .int .u64 0, .slice none 0 0, .slice none 0 0], .int .u8 0] 8 rfl (by kernel_rfl) (by kernel_rfl) (by kernel_rfl) (by kernel_rfl) (by kernel_rfl) (laid_met os _))
    rfl rfl Tryd.underlying4 (by kernel_rfl) (by kernel_rfl) (by kernel_rfl) (by kernel_rfl) (by kernel_rfl)
    (fun ds hd => by
      match ds, hd with
      | [d0, d1, d2, d3], _ => rfl)
    (by kernel_rfl) tabs contract
theorem over : Rows.authdWritesRow.holds Tryd.pinned (OpenSpec.ofChange Rows.authdWritesSpec) :=
  OpenClaim.holds_of_wide 14 Tryd.f14 rfl rfl rfl rfl rfl rfl rfl ⟨rfl, rfl, rfl, rfl, rfl⟩ rfl rfl rfl rfl rfl (by kernel_rfl) Tryd.func14 (by kernel_rfl)
    (of_decide_eq_true (by kernel_rfl)) (by unfold Func.isWrapper; first | (rw [if_pos (by decide +kernel)]; kernel_rfl) | (rw [if_neg (by decide +kernel)]; exact ⟨rfl, rfl⟩))
    (fun os started H enc _ => lifted os started H enc)
end Go.Proofs.YtijcpdgfbboamaaDoor.authdWrites

namespace Go.Proofs.YtijcpdgfbboamaaDoor
open Go
theorem authdWrites_holds : Rows.AuthdWritesCardSaid :=
  Claim7.holds_tied_plain_at .later [] [.data, .pinned] true (true, "0ea03d1a677bc788a93009061205a22dd49ab6e1156d6c4c8c9fe83d5675116e") false
    authdWrites.over (fun _ h => by cases h) (by kernel_rfl) (fun _ h => by cases h) authdWrites_row_tie rfl ⟨rfl, rfl⟩ (by kernel_rfl) rfl
    (fun f fn hf hfn => by
      obtain rfl : f = 14 := Option.some.inj ((show Tryd.prog.funcNamed "latchkey/latchkeylaw15.AuthdWrites" = some 14 by kernel_rfl).symm.trans hf) |>.symm
      obtain rfl : fn = Tryd.f14 := (Option.some.inj (Tryd.func14.symm.trans hfn)).symm
      exact ⟨by kernel_rfl, fun j t ht => by
        rw [Tryd.params14] at ht
        match j, ht with
        | 0, ht => obtain rfl := Option.some.inj ht; exact (show Tryd.prog.wantsStandIn 48 = false by kernel_rfl)
        | 1, ht => obtain rfl := Option.some.inj ht; exact (show Tryd.prog.wantsStandIn 28 = false by kernel_rfl)
        | 2, ht => obtain rfl := Option.some.inj ht; exact (show Tryd.prog.wantsStandIn 28 = false by kernel_rfl)
        | 3, ht => obtain rfl := Option.some.inj ht; exact (show Tryd.prog.wantsStandIn 5 = false by kernel_rfl)
        | j + 4, ht => simp at ht⟩)
    (by kernel_rfl)
end Go.Proofs.YtijcpdgfbboamaaDoor
