/- Proved: the law DerJoins answers true for every list of pieces: pieces written one behind the other are the list; within a sequence they are its pieces. No condition. -/
import Derived.Test.YtedjcbdhafmjiaaVsLift
import Derived.Test.YtedjcbdhafmjiaaVsCJoins
import Derived.Test.YtedjcbdhafmjiaaRows
namespace Go.Proofs.Ytedjcbdhafmjiaa.derJoins
open Go Go.VS Go.ChangeShapes Go.WideShapes Go.ChangeAt Go.RowKit
set_option linter.unusedVariables false
theorem own : ownKnob Try.prog.godebug = none := by kernel_rfl
theorem cells5 : Try.prog.cellsOf 5 = 1 := by kernel_rfl
theorem tlv_of {n : Nat} {a : AV} (h : argOk Try.prog n 27 a) : ∃ (tag : UInt8) (nb : Bool) (bs : List UInt8), a = .agg [.int .u8 tag.toNat, .sl none nb 1 (bs.map u8)] ∧ (nb = true → bs = []) := by
  obtain ⟨m, parts, _, rfl, hp⟩ := argOk_struct Try.underlying27 h
  obtain ⟨p, r, rfl, h1, q, r', rfl, h2, h3⟩ := hp
  simp only [partsOk] at h3
  subst h3
  obtain ⟨tag, rfl⟩ := argOk_u8 Try.underlying5 h1
  obtain ⟨nb, bs, rfl, hn, _⟩ := argOk_bytes Try.underlying25 Try.underlying5 cells5 h2
  exact ⟨tag, nb, bs, rfl, hn⟩
theorem all_p {l : List AV} {n : Nat} (h : ∀ x ∈ l, argOk Try.prog n 27 x) : ∃ ps : List Pt, l = ps.map pAV := by
  induction l with
  | nil => exact ⟨[], rfl⟩
  | cons x l ih =>
    obtain ⟨ps, rfl⟩ := ih fun y hy => h y (by simp [hy])
    obtain ⟨tag, nb, bs, rfl, _⟩ := tlv_of (h x (by simp))
    exact ⟨(nb, tag, bs) :: ps, rfl⟩
theorem cells27 : Try.prog.cellsOf 27 = 2 := by kernel_rfl
theorem contract (xs : List AV) (h : argsFit Try.prog [35] xs) : CallsP Try.prog 13 xs (.bool true) := by
  obtain ⟨a0, r0, rfl, ⟨_, g0⟩, h9⟩ := h
  simp only [argsFit] at h9
  subst h9
  obtain ⟨m, nb, l, _, rfl, _, _, hl⟩ := argOk_slice Try.underlying35 g0
  obtain ⟨ps, rfl⟩ := all_p hl
  rw [cells27]
  exact f13_ok nb ps
set_option maxRecDepth 100000 in
theorem lifted (os : Os) (started : os.Started) (H : Type) (enc : TypeId × Value → H) :
    ReturnsInHanded {} Try.checked os 13 .any (Rows.derJoinsSpec.pre6 enc Try.prog Try.f13 Rows.derJoinsRow.domain false) (Rows.derJoinsSpec.post enc Try.prog Try.f13 false true false false) :=
  row_true (C := Try.checked) (fn := Try.f13) (s := Rows.derJoinsSpec) [35, 27, 25, 5] 4 own started (by kernel_rfl) Try.func13
    (ChangeSpec.witness6 (enc := enc) (C := Try.checked) false ⟨#[], #[.slice none 0 0], []⟩ 8 (by kernel_rfl) (by kernel_rfl) (by kernel_rfl) (by kernel_rfl))
    rfl rfl Try.underlying4 (by kernel_rfl) (by kernel_rfl) (by kernel_rfl) (by kernel_rfl) (by kernel_rfl)
    (fun ds hd => by
      match ds, hd with
      | [d0], _ => rfl)
    (fun W g cs h => by cases h)
    contract
theorem over : Rows.derJoinsRow.holds Try.pinned (OpenSpec.ofChange Rows.derJoinsSpec) :=
  OpenClaim.holds_of_wide 13 Try.f13 rfl rfl rfl rfl rfl rfl rfl ⟨rfl, rfl, rfl, rfl, rfl⟩ rfl rfl rfl rfl rfl (by kernel_rfl) Try.func13 (by kernel_rfl)
    (of_decide_eq_true (by kernel_rfl)) (by unfold Func.isWrapper; first | (rw [if_pos (by decide +kernel)]; kernel_rfl) | (rw [if_neg (by decide +kernel)]; exact ⟨rfl, rfl⟩))
    (fun os started H enc _ => lifted os started H enc)
end Go.Proofs.Ytedjcbdhafmjiaa.derJoins

namespace Go.Proofs.Ytedjcbdhafmjiaa
theorem derJoins_holds : Rows.DerJoinsSaid := derJoins.over
end Go.Proofs.Ytedjcbdhafmjiaa
