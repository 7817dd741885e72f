/- Proved: the law AuthdOne answers true for any bytes, head and flags: whatever bytes are read, they are the one way to say that. No condition beside the library's tables, which the card ties to the program's text. -/
import Derived.Test.YtijcpdgfbboamaaDoorVsTabs
import Derived.Test.YtijcpdgfbboamaaDoorVsDOne
import Derived.Test.YtijcpdgfbboamaaDoorVsDArg
import Derived.Test.YtijcpdgfbboamaaDoorTie
import Derived.Test.YtijcpdgfbboamaaDoorCards
namespace Go.Proofs.YtijcpdgfbboamaaDoor.authdOne
open Go Go.VS Go.ChangeShapes Go.WideShapes Go.ChangeAt Go.RowKit
set_option linter.unusedVariables false
theorem contract (xs : List AV) (h : argsFit Tryd.prog [22, 43, 5] xs) : CallsP Tryd.prog 16 xs (.bool true) := by
  obtain ⟨a0, r0, rfl, ⟨_, g0⟩, a1, r1, rfl, ⟨_, g1⟩, a2, r2, rfl, ⟨_, g2⟩, h9⟩ := h
  simp only [argsFit] at h9
  subst h9
  obtain ⟨nb, b, rfl, hb, _⟩ := argOk_bytes Tryd.underlying22 Tryd.underlying5 dcells5 g0
  obtain ⟨hash, rfl, hh⟩ := argOk_arr Tryd.underlying43 Tryd.underlying5 g1
  obtain ⟨fl, rfl⟩ := argOk_u8 Tryd.underlying5 g2
  exact f16_ok nb b hb hash hh fl
set_option maxRecDepth 100000 in
theorem lifted (os : Os) (started : os.Started) (H : Type) (enc : TypeId × Value → H) :
    ReturnsInHanded {} Tryd.checked os 16 .any (fun w args => (Rows.authdOneSpec.pre enc Tryd.prog Tryd.f16 [] false w args ∧ laidMetH Tryd.prog doorLaid w) ∧ sizedMet enc Tryd.prog Tryd.f16 (OpenSpec.ofChange Rows.authdOneSpec) false w args) (Rows.authdOneSpec.post enc Tryd.prog Tryd.f16 false true false false) :=
  row_laid (C := Tryd.checked) (fn := Tryd.f16) (s := Rows.authdOneSpec) (laid := doorLaid) [22, 43, 5] 4 own started (by kernel_rfl) Tryd.func16
    (ChangeSpec.witness_at (enc := enc) (C := Tryd.checked) (os := os) (X := fun w _ => laidMetH Tryd.prog doorLaid w) false (laidWorld os) #[.slice none 0 0, .agg (Array.replicate 32 (.int .u8 0)), .int .u8 0] 8 rfl (by kernel_rfl) (by kernel_rfl) (by kernel_rfl) (by kernel_rfl) (by kernel_rfl) (laid_met os _))
    rfl rfl Tryd.underlying4 (by kernel_rfl) (by kernel_rfl) (by kernel_rfl) (by kernel_rfl) (by kernel_rfl)
    (fun ds hd => by
      match ds, hd with
      | [d0, d1, d2], _ => rfl)
    (by kernel_rfl) tabs contract
theorem over : Rows.authdOneRow.holds Tryd.pinned (OpenSpec.ofChange Rows.authdOneSpec) :=
  OpenClaim.holds_of_wide 16 Tryd.f16 rfl rfl rfl rfl rfl rfl rfl ⟨rfl, rfl, rfl, rfl, rfl⟩ rfl rfl rfl rfl rfl (by kernel_rfl) Tryd.func16 (by kernel_rfl)
    (of_decide_eq_true (by kernel_rfl)) (by unfold Func.isWrapper; first | (rw [if_pos (by decide +kernel)]; kernel_rfl) | (rw [if_neg (by decide +kernel)]; exact ⟨rfl, rfl⟩))
    (fun os started H enc _ => lifted os started H enc)
end Go.Proofs.YtijcpdgfbboamaaDoor.authdOne

namespace Go.Proofs.YtijcpdgfbboamaaDoor
open Go
theorem authdOne_holds : Rows.AuthdOneCardSaid :=
  Claim7.holds_tied_plain_at .later [] [.data, .pinned] true (true, "0ea03d1a677bc788a93009061205a22dd49ab6e1156d6c4c8c9fe83d5675116e") false
    authdOne.over (fun _ h => by cases h) (by kernel_rfl) (fun _ h => by cases h) authdOne_row_tie rfl ⟨rfl, rfl⟩ (by kernel_rfl) rfl
    (fun f fn hf hfn => by
      obtain rfl : f = 16 := Option.some.inj ((show Tryd.prog.funcNamed "latchkey/latchkeylaw15.AuthdOne" = some 16 by kernel_rfl).symm.trans hf) |>.symm
      obtain rfl : fn = Tryd.f16 := (Option.some.inj (Tryd.func16.symm.trans hfn)).symm
      exact ⟨by kernel_rfl, fun j t ht => by
        rw [Tryd.params16] at ht
        match j, ht with
        | 0, ht => obtain rfl := Option.some.inj ht; exact (show Tryd.prog.wantsStandIn 22 = false by kernel_rfl)
        | 1, ht => obtain rfl := Option.some.inj ht; exact (show Tryd.prog.wantsStandIn 43 = false by kernel_rfl)
        | 2, ht => obtain rfl := Option.some.inj ht; exact (show Tryd.prog.wantsStandIn 5 = false by kernel_rfl)
        | j + 3, ht => simp at ht⟩)
    (by kernel_rfl)
end Go.Proofs.YtijcpdgfbboamaaDoor
