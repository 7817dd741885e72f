/- Part of a framework that states what Go functions answer on values as data; it holds for every program of the model. -/
import Derived.Test.YtedjcbdhafmjiaaVsLoop2
namespace Go.VS
set_option linter.unusedVariables false
set_option linter.unusedSimpArgs false
set_option linter.unusedSectionVars false
open Go
variable {P : Program}

/-- Only some slots, without some variables, and with some names' memory shared from now on. -/
def slimF (ks ds : List Nat) (gs : List Stamp) (st : St) : St := norm ks (dropBoxes ds (st.freezeL gs))

theorem AWP.slimF {X : Ent} {c : Code} {Q : Exit → St → Prop} {st : St} (ks ds : List Nat) (gs : List Stamp) (hg : (gs.all fun g => !st.cons g) = true) (h : AWP P X c Q (VS.slimF ks ds gs st)) : AWP P X c Q st := by
  refine AWP.weaken h fun C a w hc => ?_
  have hd : ∀ (ds : List Nat) (st : St) (C : Ctx), Conc X st C a w → ∃ C', Conc X (dropBoxes ds st) C' a w := by
    intro ds
    induction ds with
    | nil => exact fun st C hc => ⟨C, hc⟩
    | cons d ds ih =>
      intro st C hc
      simp only [dropBoxes]
      split
      · rename_i hd
        exact ih _ _ (hc.dropBox d hd)
      · exact ih _ _ hc
  obtain ⟨C1, h1, _⟩ := hc.freezeL gs (fun g hgm => by simpa using List.all_eq_true.1 hg g hgm)
  obtain ⟨C', h'⟩ := hd ds _ C1 h1
  exact h'.norm ks

theorem AWP.loopF {X : Ent} {c : Code} {Q : Exit → St → Prop} {st : St} {α : Type} (ks ds : List Nat) (gs : List Stamp) (S : α → St) (H : α → Prop) (μ : α → Nat) (x0 : α) (h0 : VS.slimF ks ds gs st = S x0) (hg : (gs.all fun g => !st.cons g) = true) (hH : H x0)
    (round : ∀ x, H x → AWP P X c (thenS (fun s' => ∃ y, VS.slimF ks ds gs s' = S y ∧ (gs.all fun g => !s'.cons g) = true ∧ H y ∧ μ y < μ x) Q) (S x)) : AWP P X (.loop c) Q st := by
  refine AWP.loopI (fun n s => ∃ x, VS.slimF ks ds gs s = S x ∧ (gs.all fun g => !s.cons g) = true ∧ H x ∧ μ x = n) (μ x0) ⟨x0, h0, hg, hH, rfl⟩ ?_
  rintro n s ⟨x, h1, h2, h3, rfl⟩
  refine AWP.slimF ks ds gs h2 ?_
  rw [h1]
  refine AWP.mono (round x h3) fun e s' h' => ?_
  cases e with
  | normal =>
    obtain ⟨y, h3, h4, h5, h6⟩ := h'
    exact ⟨μ y, h6, y, h3, h4, h5, rfl⟩
  | _ => exact h'
end Go.VS
