/- Rows of bytes of known length as arguments; the library's Valid. -/
import Derived.Test.YtijcpdgfbboamaaDoorVsCItem3
import Derived.Test.YtijcpdgfbboamaaDoorVsCValid
import Derived.Test.YtijcpdgfbboamaaDoorVsLift
open Go Go.VS
namespace Go.Proofs.YtijcpdgfbboamaaDoor
theorem valid_okD : ValidOk Go.Lib.validD := fun l hl => f44_ok l hl
theorem argOk_arr {P : Program} {t e : TypeId} {k n : Nat} {a : AV} (hu : P.underlying t = some (.array k e)) (he : P.underlying e = some (.int .u8)) (h : argOk P n t a) : ∃ l : List UInt8, a = .agg (l.map u8) ∧ l.length = k := by
  cases n with
  | zero => exact h.elim
  | succ n =>
    unfold argOk at h
    rw [hu] at h
    obtain ⟨parts, rfl, h1, h2⟩ := h
    obtain ⟨l, rfl⟩ := list_of parts fun x hx => argOk_u8 he (h2 x hx)
    refine ⟨l, ?_, by simpa using h1⟩
    congr 1
    clear h1 h2
    induction l with
    | nil => rfl
    | cons c l ih => simp only [List.map_cons, List.flatMap_cons, ih]; rfl
end Go.Proofs.YtijcpdgfbboamaaDoor
