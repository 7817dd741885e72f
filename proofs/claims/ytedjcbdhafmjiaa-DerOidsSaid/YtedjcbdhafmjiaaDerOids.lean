/- Proved: the law DerOids answers true for every piece and row: any piece as a row of numbers; a right row there and back. No condition. -/
import Derived.Test.YtedjcbdhafmjiaaVsLift
import Derived.Test.YtedjcbdhafmjiaaVsCOidsLaw
import Derived.Test.YtedjcbdhafmjiaaRows
namespace Go.Proofs.Ytedjcbdhafmjiaa.derOids
open Go Go.VS Go.ChangeShapes Go.WideShapes Go.ChangeAt Go.RowKit
set_option linter.unusedVariables false
theorem own : ownKnob Try.prog.godebug = none := by kernel_rfl
theorem cells5 : Try.prog.cellsOf 5 = 1 := by kernel_rfl
theorem cells49 : Try.prog.cellsOf 49 = 1 := by kernel_rfl
theorem tlv_of {n : Nat} {a : AV} (h : argOk Try.prog n 27 a) : ∃ (tag : UInt8) (nb : Bool) (bs : List UInt8), a = .agg [.int .u8 tag.toNat, .sl none nb 1 (bs.map u8)] ∧ (nb = true → bs = []) := by
  obtain ⟨m, parts, _, rfl, hp⟩ := argOk_struct Try.underlying27 h
  obtain ⟨p, r, rfl, h1, q, r', rfl, h2, h3⟩ := hp
  simp only [partsOk] at h3
  subst h3
  obtain ⟨tag, rfl⟩ := argOk_u8 Try.underlying5 h1
  obtain ⟨nb, bs, rfl, hn, _⟩ := argOk_bytes Try.underlying25 Try.underlying5 cells5 h2
  exact ⟨tag, nb, bs, rfl, hn⟩
theorem contract (xs : List AV) (h : argsFit Try.prog [27, 28] xs) : CallsP Try.prog 5 xs (.bool true) := by
  obtain ⟨a0, r0, rfl, ⟨_, g0⟩, a1, r1, rfl, ⟨_, g1⟩, h9⟩ := h
  simp only [argsFit] at h9
  subst h9
  obtain ⟨bst, bsn, bs, rfl, bsh⟩ := tlv_of g0
  obtain ⟨lsn, ls, rfl, lsh, lsl⟩ := argOk_u64s Try.underlying28 Try.underlying49 cells49 g1
  exact f5_ok bst bsn bs bsh lsn ls
set_option maxRecDepth 100000 in
theorem lifted (os : Os) (started : os.Started) (H : Type) (enc : TypeId × Value → H) :
    ReturnsInHanded {} Try.checked os 5 .any (Rows.derOidsSpec.pre6 enc Try.prog Try.f5 Rows.derOidsRow.domain false) (Rows.derOidsSpec.post enc Try.prog Try.f5 false true false false) :=
  row_true (C := Try.checked) (fn := Try.f5) (s := Rows.derOidsSpec) [27, 28, 5, 25, 49] 4 own started (by kernel_rfl) Try.func5
    (ChangeSpec.witness6 (enc := enc) (C := Try.checked) false ⟨#[], #[.agg #[.int .u8 0, .slice none 0 0], .slice none 0 0], []⟩ 8 (by kernel_rfl) (by kernel_rfl) (by kernel_rfl) (by kernel_rfl))
    rfl rfl Try.underlying4 (by kernel_rfl) (by kernel_rfl) (by kernel_rfl) (by kernel_rfl) (by kernel_rfl)
    (fun ds hd => by
      match ds, hd with
      | [d0, d1], _ => rfl)
    contract
theorem over : Rows.derOidsRow.holds Try.pinned (OpenSpec.ofChange Rows.derOidsSpec) :=
  OpenClaim.holds_of_wide 5 Try.f5 rfl rfl rfl rfl rfl rfl rfl ⟨rfl, rfl, rfl, rfl, rfl⟩ rfl rfl rfl rfl rfl (by kernel_rfl) Try.func5 (by kernel_rfl)
    (of_decide_eq_true (by kernel_rfl)) (by unfold Func.isWrapper; first | (rw [if_pos (by decide +kernel)]; kernel_rfl) | (rw [if_neg (by decide +kernel)]; exact ⟨rfl, rfl⟩))
    (fun os started H enc _ => lifted os started H enc)
end Go.Proofs.Ytedjcbdhafmjiaa.derOids

namespace Go.Proofs.Ytedjcbdhafmjiaa
theorem derOids_holds : Rows.DerOidsSaid := derOids.over
end Go.Proofs.Ytedjcbdhafmjiaa
