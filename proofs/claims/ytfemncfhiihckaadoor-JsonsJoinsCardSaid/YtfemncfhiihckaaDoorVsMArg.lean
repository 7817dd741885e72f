/- Values as arguments. -/
import Derived.Test.YtfemncfhiihckaaDoorVsMText
import Derived.Test.YtfemncfhiihckaaDoorVsLift
open Go Go.VS
namespace Go.Proofs.YtfemncfhiihckaaDoor
set_option linter.unusedVariables false
theorem list_gv {Q : GV → Prop} : ∀ l : List AV, (∀ x ∈ l, ∃ p : GV, x = p.av ∧ Q p) → ∃ ps : List GV, l = ps.map GV.av ∧ ∀ p ∈ ps, Q p
  | [], _ => ⟨[], rfl, fun p h => by cases h⟩
  | x :: l, h => by
    obtain ⟨p, rfl, hp⟩ := h x (by simp)
    obtain ⟨ps, rfl, hq⟩ := list_gv l fun y hy => h y (by simp [hy])
    refine ⟨p :: ps, rfl, fun q hq' => ?_⟩
    rcases List.mem_cons.1 hq' with rfl | hq'
    · exact hp
    · exact hq q hq'
theorem value_arg : ∀ (n f : Nat) (a : AV), f ≤ n → argOk Tryd.prog f 24 a → ∃ p : GV, a = p.av ∧ ∀ d, GVok d p
  | 0, f, a, hf, h => by
    obtain rfl : f = 0 := by omega
    exact h.elim
  | n + 1, f, a, hf, h => by
    obtain ⟨m, parts, rfl, rfl, hp⟩ := argOk_struct Tryd.underlying24 h
    obtain ⟨p0, r0, rfl, h0, p1, r1, rfl, h1, p2, r2, rfl, h2, rfl⟩ := hp
    obtain ⟨k, rfl⟩ := argOk_u8 Tryd.underlying5 h0
    obtain ⟨t, rfl, ht⟩ := argOk_str Tryd.underlying9 h1
    obtain ⟨m', nb', l, rfl, rfl, hl, hll, hx⟩ := argOk_slice Tryd.underlying22 h2
    obtain ⟨ps, rfl, hq⟩ := list_gv l fun x hx' => value_arg n m' x (by omega) (hx x hx')
    have hc : Tryd.prog.cellsOf 24 = 3 := by kernel_rfl
    rw [List.length_map] at hll
    refine ⟨.mk k t nb' ps, ?_, fun d => ?_⟩
    · rw [hc, gav]; rfl
    · cases d with
      | zero => trivial
      | succ d => exact ⟨ht, hll, fun y hy => hq y hy d⟩
theorem ints_arg {f : Nat} {a : AV} (h : argOk Tryd.prog f 25 a) : ∃ (na : Bool) (zs : List Int), a = .sl none na 1 (zs.map (AV.int .i64)) ∧ zs.length ≤ 9223372036854775807 := by
  obtain ⟨m, nb, l, _, rfl, h1, h2, h3⟩ := argOk_slice Tryd.underlying25 h
  obtain ⟨zs, rfl⟩ := list_of (g := AV.int .i64) l fun x hx => (argOk_int Tryd.underlying3 (h3 x hx)).imp fun z hz => hz.1
  have hc : Tryd.prog.cellsOf 3 = 1 := by kernel_rfl
  exact ⟨nb, zs, by rw [hc], by rw [List.length_map] at h2; exact h2⟩
end Go.Proofs.YtfemncfhiihckaaDoor
