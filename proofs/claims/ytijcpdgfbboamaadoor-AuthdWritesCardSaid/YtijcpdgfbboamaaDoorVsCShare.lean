/- What a function answers as its caller's own may be taken as shared. -/
import Derived.Test.YtijcpdgfbboamaaDoorVsSimp
open Go Go.VS
namespace Go.Proofs.YtijcpdgfbboamaaDoor
set_option linter.unusedVariables false
theorem share {P : Program} {f : FuncId} {args : List AV} {r : AV} (h : CallsP P f args r) (h1 : noE r = true) : CallsP P f args (frozT r) := by
  intro w Sh vals ht hs ha
  refine (h w Sh vals ht hs ha).mono ?_
  rintro e w' ⟨v, C', he, hr, m, hbx, hd⟩
  let C2 : Ctx := ⟨fun b => C'.Sh b ∨ ∃ g ∈ stA r, ∃ base, C'.own g = .live b base, fun g => if hasS (stA r) g = true then .none else C'.own g, C'.box, C'.fo⟩
  have o1 : ∀ g, hasS (stA r) g = false → C2.own g = C'.own g := fun g hg => by
    have e : C2.own g = (if hasS (stA r) g = true then Own.none else C'.own g) := rfl
    rw [e, if_neg (by simp [hg])]
  have o2 : ∀ g b base, C2.own g = .live b base → C'.own g = .live b base ∧ g ∉ stA r := fun g b base hg => by
    cases e : hasS (stA r) g with
    | false => rw [o1 g e] at hg; exact ⟨hg, fun hm => by rw [hasS_mem.2 hm] at e; cases e⟩
    | true =>
      have e2 : C2.own g = (if hasS (stA r) g = true then Own.none else C'.own g) := rfl
      rw [e2, if_pos e] at hg; cases hg
  refine ⟨v, C2, he, frozT_ok (C2 := C2) hd rfl (fun b hb => Or.inl hb) r v (fun g hg b base hb => Or.inr ⟨g, hg, base, hb⟩) h1 hr, ?_, hbx, ?_⟩
  · exact { shIn := fun b hb => hb.elim (m.shIn b) fun ⟨g, _, base, hg⟩ => m.ownIn g b base hg,
            shFrom := fun b hb => hb.elim (m.shFrom b) fun ⟨g, _, base, hg⟩ => .inr (m.ownMine g b base hg rfl),
            shOld := fun b hb => Or.inl (m.shOld b hb),
            ownIn := fun g b base hg => m.ownIn g b base (o2 g b base hg).1,
            ownOne := fun g g' b base base' hg hg' hf => m.ownOne g g' b base base' (o2 g b base hg).1 (o2 g' b base' hg').1 hf,
            ownBox := fun g b base id hg hf hbb => m.ownBox g b base id (o2 g b base hg).1 hf hbb,
            ownSh := fun g b base hg hf hsb => by
              obtain ⟨k1, k2⟩ := o2 g b base hg
              rcases hsb with hsb | ⟨g', hm, base', hg'⟩
              · exact m.ownSh g b base k1 hf hsb
              · exact k2 (by rw [m.ownOne g g' b base base' k1 hg' hf]; exact hm),
            ownFrz := fun g b base hg hf => (by cases hf),
            ownMine := fun g b base hg hf => m.ownMine g b base (o2 g b base hg).1 hf,
            boxIn := m.boxIn, boxOne := m.boxOne,
            boxSh := fun id b hbb hsb => by
              rcases hsb with hsb | ⟨g', hm, base', hg'⟩
              · exact m.boxSh id b hbb hsb
              · exact m.ownBox g' b base' id hg' rfl hbb,
            boxMine := m.boxMine, kept := m.kept, size := m.size, os := m.os, tape := m.tape, output := m.output, inB := m.inB }
  · intro g hg
    cases e : hasS (stA r) g with
    | false => rw [o1 g e] at hg; exact hd g hg
    | true =>
      have e2 : C2.own g = (if hasS (stA r) g = true then Own.none else C'.own g) := rfl
      rw [e2, if_pos e] at hg; cases hg
end Go.Proofs.YtijcpdgfbboamaaDoor
