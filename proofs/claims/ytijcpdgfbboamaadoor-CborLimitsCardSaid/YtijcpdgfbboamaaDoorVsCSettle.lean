/- A slice in a slot is shared from here on. -/
import Derived.Test.YtijcpdgfbboamaaDoorVsSimp
open Go Go.VS
namespace Go.Proofs.YtijcpdgfbboamaaDoor
set_option linter.unusedVariables false
/-- From here on a slice in a slot is shared. -/
theorem settle {P : Program} {X : Ent} {c : Code} {Q : Exit → St → Prop} {st : St} (k : Nat) {g : Stamp} {eo : Nat} {nb : Bool} {sz : Nat} {l : List AV} (hk : st.s k = .sl (some (g, eo)) nb sz l) (hg : st.cons g = false)
    (h : AWP P X c Q (({ st with frz := updS st.frz g true } : St).put k (.sl none nb sz l))) : AWP P X c Q st := AWP.weaken h fun C a w hc => by
  obtain ⟨C', h1, t, ho, hb, hs⟩ := hc.freeze g hg
  refine ⟨C', { n := h1.n, slots := fun j => ?_, defers := h1.defers, boxes := h1.boxes, boxSome := h1.boxSome, mem := h1.mem, cons := h1.cons, made := h1.made, tg := h1.tg, tgInj := h1.tgInj, tgMade := h1.tgMade }⟩
  simp only [St.put, upd]
  split
  · rename_i hj
    subst hj
    have hr := h1.slots j
    have hk' : st.s j = .sl (some (g, eo)) nb sz l := hk
    simp only [hk'] at hr
    have hd : C'.own g ≠ .dead := fun e => by
      have := (h1.cons g).2 e
      rw [show st.cons g = false from hg] at this; cases this
    rcases hr with hr | hr | ⟨h0, b, base, off, cap, vs, g1, g2, g3, g4, g5, g6, g7⟩
    · exact absurd hr hd
    · exact .inl hr
    · exact .inr ⟨h0, b, off, cap, vs, none, g3, g4, .inr ⟨rfl, hs b base (by rw [← ho]; exact g1), g5⟩, g6⟩
  · exact h1.slots j
end Go.Proofs.YtijcpdgfbboamaaDoor
