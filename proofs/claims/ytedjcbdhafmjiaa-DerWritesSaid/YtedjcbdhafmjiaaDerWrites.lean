/- Proved: the law DerWrites answers true for every piece, bytes and length: any piece is written as its bytes, and read again it is the piece, whatever stands behind. No condition. -/
import Derived.Test.YtedjcbdhafmjiaaVsLift
import Derived.Test.YtedjcbdhafmjiaaVsCWrites
import Derived.Test.YtedjcbdhafmjiaaRows
namespace Go.Proofs.Ytedjcbdhafmjiaa.derWrites
open Go Go.VS Go.ChangeShapes Go.WideShapes Go.ChangeAt Go.RowKit
set_option linter.unusedVariables false
theorem own : ownKnob Try.prog.godebug = none := by kernel_rfl
theorem cells5 : Try.prog.cellsOf 5 = 1 := by kernel_rfl
theorem tlv_of {n : Nat} {a : AV} (h : argOk Try.prog n 27 a) : ∃ (tag : UInt8) (nb : Bool) (bs : List UInt8), a = .agg [.int .u8 tag.toNat, .sl none nb 1 (bs.map u8)] ∧ (nb = true → bs = []) := by
  obtain ⟨m, parts, _, rfl, hp⟩ := argOk_struct Try.underlying27 h
  obtain ⟨p, r, rfl, h1, q, r', rfl, h2, h3⟩ := hp
  simp only [partsOk] at h3
  subst h3
  obtain ⟨tag, rfl⟩ := argOk_u8 Try.underlying5 h1
  obtain ⟨nb, bs, rfl, hn, _⟩ := argOk_bytes Try.underlying25 Try.underlying5 cells5 h2
  exact ⟨tag, nb, bs, rfl, hn⟩
theorem contract (xs : List AV) (h : argsFit Try.prog [27, 25, 59] xs) : CallsP Try.prog 10 xs (.bool true) := by
  obtain ⟨a, r, rfl, ⟨_, h1⟩, b, r', rfl, ⟨_, h2⟩, c, r'', rfl, ⟨_, h3⟩, h4⟩ := h
  simp only [argsFit] at h4
  subst h4
  obtain ⟨tag, nb, bs, rfl, _⟩ := tlv_of h1
  obtain ⟨nc, beh, rfl, _, _⟩ := argOk_bytes Try.underlying25 Try.underlying5 cells5 h2
  obtain ⟨long, rfl⟩ := argOk_u16 Try.underlying59 h3
  exact f10_ok tag nb bs nc beh long
set_option maxRecDepth 100000 in
theorem lifted (os : Os) (started : os.Started) (H : Type) (enc : TypeId × Value → H) :
    ReturnsInHanded {} Try.checked os 10 .any (Rows.derWritesSpec.pre6 enc Try.prog Try.f10 Rows.derWritesRow.domain false) (Rows.derWritesSpec.post enc Try.prog Try.f10 false true false false) :=
  row_true (C := Try.checked) (fn := Try.f10) (s := Rows.derWritesSpec) [27, 25, 59, 5] 4 own started (by kernel_rfl) Try.func10
    (ChangeSpec.witness6 (enc := enc) (C := Try.checked) false ⟨#[], #[.agg #[.int .u8 0, .slice none 0 0], .slice none 0 0, .int .u16 0], []⟩ 8 (by kernel_rfl) (by kernel_rfl) (by kernel_rfl) (by kernel_rfl))
    rfl rfl Try.underlying4 (by kernel_rfl) (by kernel_rfl) (by kernel_rfl) (by kernel_rfl) (by kernel_rfl)
    (fun ds hd => by
      match ds, hd with
      | [d1, d2, d3], _ => rfl)
    contract
theorem over : Rows.derWritesRow.holds Try.pinned (OpenSpec.ofChange Rows.derWritesSpec) :=
  OpenClaim.holds_of_wide 10 Try.f10 rfl rfl rfl rfl rfl rfl rfl ⟨rfl, rfl, rfl, rfl, rfl⟩ rfl rfl rfl rfl rfl (by kernel_rfl) Try.func10 (by kernel_rfl)
    (of_decide_eq_true (by kernel_rfl)) (by unfold Func.isWrapper; first | (rw [if_pos (by decide +kernel)]; kernel_rfl) | (rw [if_neg (by decide +kernel)]; exact ⟨rfl, rfl⟩))
    (fun os started H enc _ => lifted os started H enc)
end Go.Proofs.Ytedjcbdhafmjiaa.derWrites

namespace Go.Proofs.Ytedjcbdhafmjiaa
theorem derWrites_holds : Rows.DerWritesSaid := derWrites.over
end Go.Proofs.Ytedjcbdhafmjiaa
