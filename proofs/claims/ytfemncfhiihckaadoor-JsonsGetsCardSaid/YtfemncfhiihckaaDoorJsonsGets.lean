/- Proved: the law JsonsGets answers true for any nodes, any place, any name and any bound. No condition beside the library's tables, which the card ties to the program's text. -/
import Derived.Test.YtfemncfhiihckaaDoorVsTabs
import Derived.Test.YtfemncfhiihckaaDoorVsNGets
import Derived.Test.YtfemncfhiihckaaDoorVsNArg
import Derived.Test.YtfemncfhiihckaaDoorTie
import Derived.Test.YtfemncfhiihckaaDoorCards
namespace Go.Proofs.YtfemncfhiihckaaDoor.jsonsGets
open Go Go.VS Go.ChangeShapes Go.WideShapes Go.ChangeAt Go.RowKit
set_option linter.unusedVariables false
theorem contract (xs : List AV) (h : argsFit Tryd.prog [33, 3, 9, 5] xs) : CallsP Tryd.prog 8 xs (.bool true) := by
  obtain ⟨a0, r0, rfl, ⟨_, g0⟩, a1, r1, rfl, ⟨_, g1⟩, a2, r2, rfl, ⟨_, g2⟩, a3, r3, rfl, ⟨_, g3⟩, h9⟩ := h
  simp only [argsFit] at h9
  subst h9
  obtain ⟨nb, gs, rfl, hg, hm⟩ := nodes_arg g0
  obtain ⟨i, rfl, _⟩ := argOk_int Tryd.underlying3 g1
  obtain ⟨t, rfl, _⟩ := argOk_str Tryd.underlying9 g2
  obtain ⟨s, rfl⟩ := argOk_u8 Tryd.underlying5 g3
  exact f8_ok nb gs i t s hg hm
set_option maxRecDepth 100000 in
theorem lifted (os : Os) (started : os.Started) (H : Type) (enc : TypeId × Value → H) :
    ReturnsInHanded {} Tryd.checked os 8 .any (fun w args => (Rows.jsonsGetsSpec.pre enc Tryd.prog Tryd.f8 [] false w args ∧ laidMetH Tryd.prog doorLaid w) ∧ sizedMet enc Tryd.prog Tryd.f8 (OpenSpec.ofChange Rows.jsonsGetsSpec) false w args) (Rows.jsonsGetsSpec.post enc Tryd.prog Tryd.f8 false true false false) :=
  row_laid (C := Tryd.checked) (fn := Tryd.f8) (s := Rows.jsonsGetsSpec) (laid := doorLaid) [33, 42, 40, 9, 29, 25, 3, 5] 4 own started (by kernel_rfl) Tryd.func8
    (ChangeSpec.witness_at (enc := enc) (C := Tryd.checked) (os := os) (X := fun w _ => laidMetH Tryd.prog doorLaid w) false (laidWorld os) #[.slice none 0 0, .int .i64 0, .string (ByteArray.mk #[]), .int .u8 0] 8 rfl (by kernel_rfl) (by kernel_rfl) (by kernel_rfl) (by kernel_rfl) (by kernel_rfl) (laid_met os _))
    rfl rfl Tryd.underlying4 (by kernel_rfl) (by kernel_rfl) (by kernel_rfl) (by kernel_rfl) (by kernel_rfl)
    (fun ds hd => by
      match ds, hd with
      | [d0, d1, d2, d3], _ => rfl)
    (by kernel_rfl) tabs contract
theorem over : Rows.jsonsGetsRow.holds Tryd.pinned (OpenSpec.ofChange Rows.jsonsGetsSpec) :=
  OpenClaim.holds_of_wide 8 Tryd.f8 rfl rfl rfl rfl rfl rfl rfl ⟨rfl, rfl, rfl, rfl, rfl⟩ rfl rfl rfl rfl rfl (by kernel_rfl) Tryd.func8 (by kernel_rfl)
    (of_decide_eq_true (by kernel_rfl)) (by unfold Func.isWrapper; first | (rw [if_pos (by decide +kernel)]; kernel_rfl) | (rw [if_neg (by decide +kernel)]; exact ⟨rfl, rfl⟩))
    (fun os started H enc _ => lifted os started H enc)
end Go.Proofs.YtfemncfhiihckaaDoor.jsonsGets

namespace Go.Proofs.YtfemncfhiihckaaDoor
open Go
theorem jsonsGets_holds : Rows.JsonsGetsCardSaid :=
  Claim7.holds_tied_plain_at .later [] [.data, .pinned] true (true, "83a82b3b44d389b09a94f50fb0570c4fa1a744f6f442abd46469baffe4ccd8d8") false
    jsonsGets.over (fun _ h => by cases h) (by kernel_rfl) (fun _ h => by cases h) jsonsGets_row_tie rfl ⟨rfl, rfl⟩ (by kernel_rfl) rfl
    (fun f fn hf hfn => by
      obtain rfl : f = 8 := Option.some.inj ((show Tryd.prog.funcNamed "latchkey/latchkeylaw05.JsonsGets" = some 8 by kernel_rfl).symm.trans hf) |>.symm
      obtain rfl : fn = Tryd.f8 := (Option.some.inj (Tryd.func8.symm.trans hfn)).symm
      exact ⟨by kernel_rfl, fun j t ht => by
        rw [Tryd.params8] at ht
        match j, ht with
        | 0, ht => obtain rfl := Option.some.inj ht; exact (show Tryd.prog.wantsStandIn 33 = false by kernel_rfl)
        | 1, ht => obtain rfl := Option.some.inj ht; exact (show Tryd.prog.wantsStandIn 3 = false by kernel_rfl)
        | 2, ht => obtain rfl := Option.some.inj ht; exact (show Tryd.prog.wantsStandIn 9 = false by kernel_rfl)
        | 3, ht => obtain rfl := Option.some.inj ht; exact (show Tryd.prog.wantsStandIn 5 = false by kernel_rfl)
        | j + 4, ht => simp at ht⟩)
    (by kernel_rfl)
end Go.Proofs.YtfemncfhiihckaaDoor
