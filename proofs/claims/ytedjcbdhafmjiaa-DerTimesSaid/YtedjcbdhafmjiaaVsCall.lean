/- Part of a framework that states what Go functions answer on values as data; it holds for every program of the model. -/
import Derived.Test.YtedjcbdhafmjiaaVsApp3
namespace Go.VS
set_option linter.unusedVariables false
set_option linter.unusedSimpArgs false
set_option linter.unusedSectionVars false
open Go
variable {P : Program}

/-- A call's beginning. -/
def Ent.of (w : World) (Sh : Nat → Prop) (n : Nat) (ht : tblOk w Sh) (hs : ∀ b, Sh b → b < w.heap.size) : Ent := { w0 := w, Sh0 := Sh, own0 := fun _ => False, n := n, tab := ht, sh0 := fun b hb => ⟨hs b hb, id⟩ }

def RepArgs (w : World) (Sh : Nat → Prop) (as : List AV) (vs : List Value) : Prop :=
  as.length = vs.length ∧ ∀ (i : Nat) (a : AV) (v : Value), as[i]? = some a → vs[i]? = some v → RepF w Sh a v

/-- A function, called with what is shared, answers that: nothing that was there has turned. -/
def CallsP (P : Program) (f : FuncId) (args : List AV) (r : AV) : Prop :=
  ∀ (w : World) (Sh : Nat → Prop) (vals : List Value) (ht : tblOk w Sh) (hs : ∀ b, Sh b → b < w.heap.size), RepArgs w Sh args vals →
    Calls P f vals.toArray w fun e w' => ∃ v C', e = .returned v ∧ Rep w' C' r v ∧ MemOk (Ent.of w Sh 0 ht hs) (fun _ => false) C' w' ∧ (∀ id, C'.box id = none) ∧ (∀ g, C'.own g ≠ .dead)

/-! ### Many new names -/

def St.mkNews (st : St) : List Nat → St
  | [] => st
  | k :: ks => (st.mkNew k).mkNews ks

theorem canNew_mkNew {st : St} {k k' : Nat} (h : st.canNew k' = true) (hne : k' ≠ k) : (st.mkNew k).canNew k' = true := by
  simp only [St.canNew, St.mkNew, Bool.and_eq_true, Bool.not_eq_true'] at h ⊢
  obtain ⟨⟨⟨h1, h2⟩, h3⟩, h4⟩ := h
  refine ⟨⟨⟨?_, h2⟩, ?_⟩, ?_⟩
  · rw [upd_ne _ _ hne]; exact h1
  · simp only [updS]; rw [if_neg (by simp [hne])]; exact h3
  · simp only [updS]; rw [if_neg (by simp)]; exact h4

theorem Conc.news {X : Ent} {a : Act} {w : World} : ∀ (l : List (Nat × Own)) {st : St} {C : Ctx}, Conc X st C a w → (l.map (·.1)).Nodup → (∀ t ∈ l, st.canNew t.1 = true) →
    (∀ t ∈ l, t.2 ≠ .dead) →
    (∀ t ∈ l, ∀ b base, t.2 = .live b base → b < w.heap.size ∧ X.mine b ∧ ¬ C.Sh b ∧ (∀ id, C.box id ≠ some b) ∧ ∀ g bs, C.own g ≠ .live b bs) →
    (∀ t ∈ l, ∀ t' ∈ l, ∀ b base base', t.2 = .live b base → t'.2 = .live b base' → t.1 = t'.1) →
    ∃ C', Conc X (st.mkNews (l.map (·.1))) C' a w ∧ C.To w w C' ∧ C'.Sh = C.Sh ∧ C'.box = C.box ∧ (∀ t ∈ l, C'.own (1, t.1) = t.2) ∧
      (∀ g, (∀ t ∈ l, g ≠ (1, t.1)) → C'.own g = C.own g ∨ (C'.own g = .dead ∧ g.1 = 0))
  | [], st, C, h, _, _, _, _, _ => ⟨C, h, ⟨fun _ hb => ⟨hb, rfl⟩, fun _ _ hb => hb, fun _ => .inr (.inr ⟨rfl, fun _ _ _ => rfl⟩)⟩, rfl, rfl, by simp, fun g _ => .inl rfl⟩
  | (k, ow) :: l, st, C, h, hnd, hcan, hdead, hblk, hdis => by
    have hck := hcan (k, ow) (by simp)
    have hck' := hck
    simp only [St.canNew, Bool.and_eq_true, Bool.not_eq_true'] at hck'
    obtain ⟨⟨⟨c1, c2⟩, c3⟩, c4⟩ := hck'
    simp only [List.map_cons, List.nodup_cons] at hnd
    have hk := h.kill (0, k) (by simp)
    have hnone : C.own (1, k) = .none := by
      cases e : C.own (1, k) with
      | none => rfl
      | dead => have := h.made k (by rw [e]; simp); rw [c1] at this; cases this
      | live b base => have := h.made k (by rw [e]; simp); rw [c1] at this; cases this
    have notgt : ∀ j, (updS st.cons (0, k) true) (1, j) = false → st.res j = some (0, k) → False := by
      intro j _ hj
      have := (h.tg j _ hj).1
      rw [c3] at this; cases this
    -- one step
    have step : ∃ C1, Conc X (st.mkNew k) C1 a w ∧ C.To w w C1 ∧ C1.Sh = C.Sh ∧ C1.box = C.box ∧ C1.own (1, k) = ow ∧ (∀ g, g ≠ (1, k) → C1.own g = C.own g ∨ (C1.own g = .dead ∧ g.1 = 0)) := by
      have to1 : ∀ (o' : Stamp → Own), (∀ g, g ≠ (1, k) → g ≠ (0, k) → o' g = C.own g) → o' (0, k) = .dead → C.To w w { C with own := o' } := by
        intro o' ho hd
        refine ⟨fun _ hb => ⟨hb, rfl⟩, fun _ _ hb => hb, fun g => ?_⟩
        by_cases e1 : g = (1, k)
        · subst e1; exact .inl hnone
        · by_cases e2 : g = (0, k)
          · subst e2; exact .inr (.inl hd)
          · exact .inr (.inr ⟨ho g e1 e2, fun _ _ _ => rfl⟩)
      cases how : ow with
      | dead => exact absurd how (hdead (k, ow) (by simp))
      | none =>
        have h2 := hk.mark (d := k) (t0 := (0, k)) c1 (by simp [updS]) (by simp) notgt
        refine ⟨_, h2, to1 _ (fun g _ e2 => by simp [updO, e2]) (by simp [updO]), rfl, rfl, by simp [updO, hnone], fun g _ => ?_⟩
        by_cases e2 : g = (0, k)
        · right; exact ⟨by simp [updO, e2], by simp [e2]⟩
        · left; simp [updO, e2]
      | live b base =>
        obtain ⟨p1, p2, p3, p4, p5⟩ := hblk (k, ow) (by simp) b base how
        have h2 := hk.ownNew (d := k) (b := b) (base := base) (t0 := (0, k)) p1 p2 c1 c2 p3 p4
          (fun g bs hg => by
            simp only [updO] at hg
            split at hg
            · cases hg
            · exact p5 g bs hg)
          (by simp [updS]) (by simp) notgt
        refine ⟨_, h2, to1 _ (fun g e1 e2 => by simp [updO, e1, e2]) (by simp [updO]), rfl, rfl, by simp [updO], fun g e1 => ?_⟩
        by_cases e2 : g = (0, k)
        · right; exact ⟨by simp [updO, e2], by simp [e2]⟩
        · left; simp [updO, e1, e2]
    obtain ⟨C1, q1, q2, q3, q4, q5, q6⟩ := step
    have hne : ∀ t ∈ l, t.1 ≠ k := fun t ht e => hnd.1 (by rw [← e]; exact List.mem_map_of_mem ht)
    obtain ⟨C2, r1, r2, r3, r4, r5, r6⟩ := Conc.news l q1 hnd.2 (fun t ht => canNew_mkNew (hcan t (by simp [ht])) (hne t ht)) (fun t ht => hdead t (by simp [ht]))
      (fun t ht b base hb => by
        obtain ⟨p1, p2, p3, p4, p5⟩ := hblk t (by simp [ht]) b base hb
        refine ⟨p1, p2, by rw [q3]; exact p3, by rw [q4]; exact p4, fun g bs hg => ?_⟩
        by_cases e1 : g = (1, k)
        · subst e1
          rw [q5] at hg
          exact hne t ht (hdis t (by simp [ht]) (k, ow) (by simp) b base bs hb hg)
        · rcases q6 g e1 with e | ⟨e, _⟩
          · rw [e] at hg; exact p5 g bs hg
          · rw [e] at hg; cases hg)
      (fun t ht t' ht' => hdis t (by simp [ht]) t' (by simp [ht']))
    refine ⟨C2, r1, ?_, r3.trans q3, r4.trans q4, ?_, ?_⟩
    · refine ⟨fun b hb => ⟨by rw [r3, q3]; exact hb, rfl⟩, fun id b hb => by rw [r4, q4]; exact hb, fun g => ?_⟩
      rcases q2.own g with e | e | ⟨e, _⟩
      · exact .inl e
      · rcases r2.own g with e' | e' | ⟨e', _⟩
        · rw [e] at e'; cases e'
        · exact .inr (.inl e')
        · exact .inr (.inl (e'.trans e))
      · rcases r2.own g with e' | e' | ⟨e', _⟩
        · exact .inl (e.symm.trans e')
        · exact .inr (.inl e')
        · exact .inr (.inr ⟨e'.trans e, fun _ _ _ => rfl⟩)
    · intro t ht
      rcases List.mem_cons.1 ht with rfl | ht
      · have hne' : ∀ t ∈ l, ((1, k) : Stamp) ≠ (1, t.1) := fun t ht e => hne t ht (by simpa using e.symm)
        rcases r6 (1, k) hne' with e | ⟨_, e⟩
        · rw [e]; exact q5
        · simp at e
      · exact r5 t ht
    · intro g hg
      rcases r6 g (fun t ht => hg t (by simp [ht])) with e | e
      · rcases q6 g (hg (k, ow) (by simp)) with e' | ⟨e', e''⟩
        · exact .inl (e.trans e')
        · exact .inr ⟨e.trans e', e''⟩
      · exact .inr e
end Go.VS
