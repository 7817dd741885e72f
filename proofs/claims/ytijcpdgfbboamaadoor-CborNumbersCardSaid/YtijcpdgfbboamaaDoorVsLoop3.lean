/- Part of a framework that states what Go functions answer on values as data; it holds for every program of the model. -/
import Derived.Test.YtijcpdgfbboamaaDoorVsBits
import Derived.Test.YtijcpdgfbboamaaDoorVsAny6
namespace Go.VS
set_option linter.unusedVariables false
set_option linter.unusedSimpArgs false
set_option linter.unusedSectionVars false
open Go
variable {P : Program}

def delB (id : Nat) : List (Nat × List AV) → List (Nat × List AV)
  | [] => []
  | (k, v) :: B => if k = id then delB id B else (k, v) :: delB id B
theorem delB_nil (id : Nat) : delB id [] = [] := rfl
theorem delB_cons (id k : Nat) (v : List AV) (B : List (Nat × List AV)) : delB id ((k, v) :: B) = if k = id then delB id B else (k, v) :: delB id B := rfl
theorem lkB_delB (id : Nat) : ∀ (B : List (Nat × List AV)) (t : Nat), lkB (delB id B) t = if t = id then none else lkB B t
  | [], t => by simp [delB, lkB]
  | (k, v) :: B, t => by
    simp only [delB]
    by_cases e : k = id
    · rw [if_pos e, lkB_delB id B t]
      subst e
      simp only [lkB]
      by_cases e2 : t = k <;> simp [e2]
    · rw [if_neg e]
      simp only [lkB, lkB_delB id B t]
      by_cases e2 : t = k
      · subst e2; simp [e]
      · simp [e2]
theorem dropBox_mk (L : List (Nat × AV)) (B : List (Nat × List AV)) (c f : Stamp → Bool) (m : Nat → Bool) (r : Nat → Option Stamp) (id : Nat) :
    (St.mk (lk L) (lkB B) c f m r).dropBox id = St.mk (lk (mapK (dropAV id) L)) (lkB (delB id (mapKB (dropL id) B))) c f m r := by
  unfold St.dropBox
  congr 1
  · funext t; exact (lk_mapK _ rfl L t).symm
  · funext t
    rw [lkB_delB, lkB_mapKB]
    rfl

def dropBoxes : List Nat → St → St
  | [], st => st
  | d :: ds, st => dropBoxes ds (if d < 1000000 then st.dropBox d else st)
theorem dropBoxes_nil (st : St) : dropBoxes [] st = st := rfl
theorem dropBoxes_cons (d : Nat) (ds : List Nat) (st : St) : dropBoxes (d :: ds) st = dropBoxes ds (if d < 1000000 then st.dropBox d else st) := rfl

/-- Only some slots, and without some variables. -/
def slim (ks ds : List Nat) (st : St) : St := norm ks (dropBoxes ds st)

theorem AWP.slim {X : Ent} {c : Code} {Q : Exit → St → Prop} {st : St} (ks ds : List Nat) (h : AWP P X c Q (VS.slim ks ds st)) : AWP P X c Q st := by
  refine AWP.weaken h fun C a w hc => ?_
  have : ∀ (ds : List Nat) (st : St) (C : Ctx), Conc X st C a w → ∃ C', Conc X (dropBoxes ds st) C' a w := by
    intro ds
    induction ds with
    | nil => exact fun st C hc => ⟨C, hc⟩
    | cons d ds ih =>
      intro st C hc
      simp only [dropBoxes]
      split
      · rename_i hd
        exact ih _ _ (hc.dropBox d hd)
      · exact ih _ _ hc
  obtain ⟨C', h'⟩ := this ds st C hc
  exact h'.norm ks

/-- A loop, with its state written out as a function of what turns. -/
theorem AWP.loopX {X : Ent} {c : Code} {Q : Exit → St → Prop} {st : St} {α : Type} (ks ds : List Nat) (S : α → St) (H : α → Prop) (μ : α → Nat) (x0 : α) (h0 : VS.slim ks ds st = S x0) (hH : H x0)
    (round : ∀ x, H x → AWP P X c (thenS (fun s' => ∃ y, VS.slim ks ds s' = S y ∧ H y ∧ μ y < μ x) Q) (S x)) : AWP P X (.loop c) Q st := by
  refine AWP.loopI (fun n s => ∃ x, VS.slim ks ds s = S x ∧ H x ∧ μ x = n) (μ x0) ⟨x0, h0, hH, rfl⟩ ?_
  rintro n s ⟨x, h1, h2, rfl⟩
  refine AWP.slim ks ds ?_
  rw [h1]
  refine AWP.mono (round x h2) fun e s' h' => ?_
  cases e with
  | normal =>
    obtain ⟨y, h3, h4, h5⟩ := h'
    exact ⟨μ y, h5, y, h3, h4, rfl⟩
  | _ => exact h'
end Go.VS
namespace Go.VS
set_option linter.unusedVariables false
set_option linter.unusedSimpArgs false
set_option linter.unusedSectionVars false
open Go
variable {P : Program}

/-- Only some slots, without some variables, and with some names' memory shared from now on. -/
def slimF (ks ds : List Nat) (gs : List Stamp) (st : St) : St := norm ks (dropBoxes ds (st.freezeL gs))

theorem AWP.slimF {X : Ent} {c : Code} {Q : Exit → St → Prop} {st : St} (ks ds : List Nat) (gs : List Stamp) (hg : (gs.all fun g => !st.cons g) = true) (h : AWP P X c Q (VS.slimF ks ds gs st)) : AWP P X c Q st := by
  refine AWP.weaken h fun C a w hc => ?_
  have hd : ∀ (ds : List Nat) (st : St) (C : Ctx), Conc X st C a w → ∃ C', Conc X (dropBoxes ds st) C' a w := by
    intro ds
    induction ds with
    | nil => exact fun st C hc => ⟨C, hc⟩
    | cons d ds ih =>
      intro st C hc
      simp only [dropBoxes]
      split
      · rename_i hd
        exact ih _ _ (hc.dropBox d hd)
      · exact ih _ _ hc
  obtain ⟨C1, h1, _⟩ := hc.freezeL gs (fun g hgm => by simpa using List.all_eq_true.1 hg g hgm)
  obtain ⟨C', h'⟩ := hd ds _ C1 h1
  exact h'.norm ks

theorem AWP.loopF {X : Ent} {c : Code} {Q : Exit → St → Prop} {st : St} {α : Type} (ks ds : List Nat) (gs : List Stamp) (S : α → St) (H : α → Prop) (μ : α → Nat) (x0 : α) (h0 : VS.slimF ks ds gs st = S x0) (hg : (gs.all fun g => !st.cons g) = true) (hH : H x0)
    (round : ∀ x, H x → AWP P X c (thenS (fun s' => ∃ y, VS.slimF ks ds gs s' = S y ∧ (gs.all fun g => !s'.cons g) = true ∧ H y ∧ μ y < μ x) Q) (S x)) : AWP P X (.loop c) Q st := by
  refine AWP.loopI (fun n s => ∃ x, VS.slimF ks ds gs s = S x ∧ (gs.all fun g => !s.cons g) = true ∧ H x ∧ μ x = n) (μ x0) ⟨x0, h0, hg, hH, rfl⟩ ?_
  rintro n s ⟨x, h1, h2, h3, rfl⟩
  refine AWP.slimF ks ds gs h2 ?_
  rw [h1]
  refine AWP.mono (round x h3) fun e s' h' => ?_
  cases e with
  | normal =>
    obtain ⟨y, h3, h4, h5, h6⟩ := h'
    exact ⟨μ y, h6, y, h3, h4, h5, rfl⟩
  | _ => exact h'
end Go.VS
