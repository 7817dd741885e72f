/- Proved: the law StoreCounts answers true for every count, counts and flags: a count never falls, a flag stays. No condition. -/
import Derived.Test.YtafapnmnkmidkaaVsLift
import Derived.Test.YtafapnmnkmidkaaVsCCounts
import Derived.Test.YtafapnmnkmidkaaRows
namespace Go.Proofs.Ytafapnmnkmidkaa.storeCounts
open Go Go.VS Go.ChangeShapes Go.WideShapes Go.ChangeAt Go.RowKit
set_option linter.unusedVariables false
theorem own : ownKnob Try.prog.godebug = none := by kernel_rfl
theorem cells22 : Try.prog.cellsOf 22 = 1 := by kernel_rfl
theorem cells4 : Try.prog.cellsOf 4 = 1 := by kernel_rfl
theorem all_u32 {l : List AV} {n : Nat} (h : ∀ x ∈ l, argOk Try.prog n 22 x) : ∃ cs : List UInt32, l = cs.map fun c => .int .u32 (c.toNat : Int) := by
  induction l with
  | nil => exact ⟨[], rfl⟩
  | cons x l ih =>
    obtain ⟨cs, rfl⟩ := ih fun y hy => h y (by simp [hy])
    obtain ⟨c, rfl⟩ := argOk_u32 Try.underlying22 (h x (by simp))
    exact ⟨c :: cs, rfl⟩
theorem all_bool {l : List AV} {n : Nat} (h : ∀ x ∈ l, argOk Try.prog n 4 x) : ∃ cs : List Bool, l = cs.map .bool := by
  induction l with
  | nil => exact ⟨[], rfl⟩
  | cons x l ih =>
    obtain ⟨cs, rfl⟩ := ih fun y hy => h y (by simp [hy])
    obtain ⟨c, rfl⟩ := argOk_bool Try.underlying4 (h x (by simp))
    exact ⟨c :: cs, rfl⟩
theorem contract (xs : List AV) (h : argsFit Try.prog [22, 23, 24] xs) : CallsP Try.prog 3 xs (.bool true) := by
  obtain ⟨a0, r0, rfl, ⟨_, g0⟩, a1, r1, rfl, ⟨_, g1⟩, a2, r2, rfl, ⟨_, g2⟩, h9⟩ := h
  simp only [argsFit] at h9
  subst h9
  obtain ⟨cnt, rfl⟩ := argOk_u32 Try.underlying22 g0
  obtain ⟨_, nc, l1, _, rfl, _, _, h1⟩ := argOk_slice Try.underlying23 g1
  obtain ⟨_, nf, l2, _, rfl, _, _, h2⟩ := argOk_slice Try.underlying24 g2
  obtain ⟨cs, rfl⟩ := all_u32 h1
  obtain ⟨fs, rfl⟩ := all_bool h2
  rw [cells22, cells4]
  exact f3_ok cnt nc cs nf fs
set_option maxRecDepth 100000 in
theorem lifted (os : Os) (started : os.Started) (H : Type) (enc : TypeId × Value → H) :
    ReturnsInHanded {} Try.checked os 3 .any (Rows.storeCountsSpec.pre6 enc Try.prog Try.f3 Rows.storeCountsRow.domain false) (Rows.storeCountsSpec.post enc Try.prog Try.f3 false true false false) :=
  row_true (C := Try.checked) (fn := Try.f3) (s := Rows.storeCountsSpec) [22, 23, 24, 4] 4 own started (by kernel_rfl) Try.func3
    (ChangeSpec.witness6 (enc := enc) (C := Try.checked) false ⟨#[], #[.int .u32 0, .slice none 0 0, .slice none 0 0], []⟩ 8 (by kernel_rfl) (by kernel_rfl) (by kernel_rfl) (by kernel_rfl))
    rfl rfl Try.underlying4 (by kernel_rfl) (by kernel_rfl) (by kernel_rfl) (by kernel_rfl) (by kernel_rfl)
    (fun ds hd => by
      match ds, hd with
      | [d0, d1, d2], _ => rfl)
    (fun W g cs h => by cases h)
    contract
theorem over : Rows.storeCountsRow.holds Try.pinned (OpenSpec.ofChange Rows.storeCountsSpec) :=
  OpenClaim.holds_of_wide 3 Try.f3 rfl rfl rfl rfl rfl rfl rfl ⟨rfl, rfl, rfl, rfl, rfl⟩ rfl rfl rfl rfl rfl (by kernel_rfl) Try.func3 (by kernel_rfl)
    (of_decide_eq_true (by kernel_rfl)) (by unfold Func.isWrapper; first | (rw [if_pos (by decide +kernel)]; kernel_rfl) | (rw [if_neg (by decide +kernel)]; exact ⟨rfl, rfl⟩))
    (fun os started H enc _ => lifted os started H enc)
end Go.Proofs.Ytafapnmnkmidkaa.storeCounts

namespace Go.Proofs.Ytafapnmnkmidkaa
theorem storeCounts_holds : Rows.StoreCountsSaid := storeCounts.over
end Go.Proofs.Ytafapnmnkmidkaa
