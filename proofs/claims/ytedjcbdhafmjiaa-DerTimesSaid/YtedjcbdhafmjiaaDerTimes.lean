/- Proved: the law DerTimes answers true for every piece, digits and way of writing: any piece as a time; digits at its places. No condition. -/
import Derived.Test.YtedjcbdhafmjiaaVsLift
import Derived.Test.YtedjcbdhafmjiaaVsCTimesLaw
import Derived.Test.YtedjcbdhafmjiaaRows
namespace Go.Proofs.Ytedjcbdhafmjiaa.derTimes
open Go Go.VS Go.ChangeShapes Go.WideShapes Go.ChangeAt Go.RowKit
set_option linter.unusedVariables false
theorem own : ownKnob Try.prog.godebug = none := by kernel_rfl
theorem cells5 : Try.prog.cellsOf 5 = 1 := by kernel_rfl
theorem tlv_of {n : Nat} {a : AV} (h : argOk Try.prog n 27 a) : ∃ (tag : UInt8) (nb : Bool) (bs : List UInt8), a = .agg [.int .u8 tag.toNat, .sl none nb 1 (bs.map u8)] ∧ (nb = true → bs = []) := by
  obtain ⟨m, parts, _, rfl, hp⟩ := argOk_struct Try.underlying27 h
  obtain ⟨p, r, rfl, h1, q, r', rfl, h2, h3⟩ := hp
  simp only [partsOk] at h3
  subst h3
  obtain ⟨tag, rfl⟩ := argOk_u8 Try.underlying5 h1
  obtain ⟨nb, bs, rfl, hn, _⟩ := argOk_bytes Try.underlying25 Try.underlying5 cells5 h2
  exact ⟨tag, nb, bs, rfl, hn⟩
theorem contract (xs : List AV) (h : argsFit Try.prog [27, 25, 4] xs) : CallsP Try.prog 6 xs (.bool true) := by
  obtain ⟨a0, r0, rfl, ⟨_, g0⟩, a1, r1, rfl, ⟨_, g1⟩, a2, r2, rfl, ⟨_, g2⟩, h9⟩ := h
  simp only [argsFit] at h9
  subst h9
  obtain ⟨tt, tn, t, rfl, th⟩ := tlv_of g0
  obtain ⟨dn, d, rfl, dh, dl⟩ := argOk_bytes Try.underlying25 Try.underlying5 cells5 g1
  obtain ⟨long, rfl⟩ := argOk_bool Try.underlying4 g2
  exact f6_ok tt tn t th dn d long
set_option maxRecDepth 100000 in
theorem lifted (os : Os) (started : os.Started) (H : Type) (enc : TypeId × Value → H) :
    ReturnsInHanded {} Try.checked os 6 .any (Rows.derTimesSpec.pre6 enc Try.prog Try.f6 Rows.derTimesRow.domain false) (Rows.derTimesSpec.post enc Try.prog Try.f6 false true false false) :=
  row_true (C := Try.checked) (fn := Try.f6) (s := Rows.derTimesSpec) [27, 25, 4, 5] 4 own started (by kernel_rfl) Try.func6
    (ChangeSpec.witness6 (enc := enc) (C := Try.checked) false ⟨#[], #[.agg #[.int .u8 0, .slice none 0 0], .slice none 0 0, .bool false], []⟩ 8 (by kernel_rfl) (by kernel_rfl) (by kernel_rfl) (by kernel_rfl))
    rfl rfl Try.underlying4 (by kernel_rfl) (by kernel_rfl) (by kernel_rfl) (by kernel_rfl) (by kernel_rfl)
    (fun ds hd => by
      match ds, hd with
      | [d0, d1, d2], _ => rfl)
    (fun W g cs h => by cases h)
    contract
theorem over : Rows.derTimesRow.holds Try.pinned (OpenSpec.ofChange Rows.derTimesSpec) :=
  OpenClaim.holds_of_wide 6 Try.f6 rfl rfl rfl rfl rfl rfl rfl ⟨rfl, rfl, rfl, rfl, rfl⟩ rfl rfl rfl rfl rfl (by kernel_rfl) Try.func6 (by kernel_rfl)
    (of_decide_eq_true (by kernel_rfl)) (by unfold Func.isWrapper; first | (rw [if_pos (by decide +kernel)]; kernel_rfl) | (rw [if_neg (by decide +kernel)]; exact ⟨rfl, rfl⟩))
    (fun os started H enc _ => lifted os started H enc)
end Go.Proofs.Ytedjcbdhafmjiaa.derTimes

namespace Go.Proofs.Ytedjcbdhafmjiaa
theorem derTimes_holds : Rows.DerTimesSaid := derTimes.over
end Go.Proofs.Ytedjcbdhafmjiaa
