/- Part of a framework that states what Go functions answer on values as data; it holds for every program of the model. -/
import Derived.Test.YtedjcbdhafmjiaaVsElem
namespace Go.VS
set_option linter.unusedVariables false
set_option linter.unusedSimpArgs false
set_option linter.unusedSectionVars false
open Go
variable {P : Program}

/-- A whole element is stored. -/
def storeEl (P : Program) (st : St) (o : Oper) : Option St :=
  match o.op with
  | .store T a x =>
    match st.ev P 0 a with
    | .eptr (some (g, eo)) sz l i off =>
      need ((P.info? T).isSome = true ∧ off = 0 ∧ st.cons g = false ∧ st.frz g = false ∧ st.solid (st.ev P T x) = true ∧ (st.ev P T x).cells.length = P.cellsOf T ∧ P.cellsOf T = sz ∧
          frozable (st.ev P T x) = true ∧ stampsOf (st.ev P T x) = [])
        (some (st.setE g sz (eo + i) (froz (st.ev P T x))))
    | _ => none
  | _ => none

theorem wrote_setCells {w : World} {b o : Nat} {us : List Value} {c : Array Value} {e : TypeId} {fr : Nat × Nat} (hb : w.heap[b]? = some (.cells c e fr)) (hl : o + us.length ≤ c.size) :
    Wrote w (w.setCells b o us) b o us where
  other b' hb' := heap_setCells_ne _ _ _ _ hb'
  at_ off j v hv := by
    have h2 := heap_setCells_at us o w c e fr hb hl
    simp only [World.cell?, hb] at hv
    simp only [World.cell?, h2]
    simp only [Option.isSome_none, Bool.false_eq_true, if_false] at hv ⊢
    rw [List.getElem?_toArray, putAt_get (by simpa using hl)]
    split
    · rfl
    · simpa using hv
  open_ n h := by
    obtain ⟨c', e', lo, hi, h1, h2, h3, h4⟩ := h
    rw [hb] at h1; cases h1
    refine ⟨_, e, lo, hi, heap_setCells_at us o w c e (lo, hi) hb hl, ?_, ?_, h4⟩
    · simp only [List.size_toArray]
      rw [putAt_length (by simpa using hl), Array.length_toList]; exact h2
    · intro k hk
      simp only [List.size_toArray] at hk
      rw [putAt_length (by simpa using hl), Array.length_toList] at hk
      exact h3 k hk

theorem step_storeEl {X : Ent} {st st' : St} {o : Oper} (h : storeEl P st o = some st') (hd : o.dst = none) : OpStep P X st o st' :=
  OpStep.skip fun C a w hc => by
    unfold storeEl at h
    split at h
    · rename_i T ad x ho
      split at h
      · rename_i g eo sz l i off hp
        obtain ⟨⟨hI, hoff, hcons, hfrz, hs, hl, hsz, hfz, hst⟩, h''⟩ := need_some h
        cases h''
        subst hoff
        have hptr := hc.ev P 0 ad
        rw [hp] at hptr
        rcases hptr with hdead | ⟨b, base, vs, hg, hptr, hi, hlt, hcell, hrow, hopen⟩
        · have := (hc.cons g).2 hdead; rw [hcons] at this; cases this
        · have hev := hc.ev P T x
          have hr := rep_solid hc.cons hs hev
          have hlen := hr.length
          rw [Array.length_toList] at hlen
          obtain ⟨c, e, lo, hi', h2, hle, h3, _⟩ := hopen
          have m := hc.mem
          have hbsh : ∀ k, C.Sh k → k ≠ b := fun k hk e => m.ownSh g b base hg hfrz (e ▸ hk)
          have hbbox : ∀ id, C.box id ≠ some b := fun id e => m.ownBox g b base id hg hfrz e
          have hone : ∀ h base', C.own h = .live b base' → h = g := fun h base' hh => (m.ownOne g h b base base' hg hh hfrz).symm
          have hfz' : RepF w C.Sh (froz (st.ev P T x)) (a.eval x) := froz_ok _ _ hfz (by rw [hst]; intro g hg; cases hg) hev
          have hfit : base + eo * sz + i * sz + (a.eval x).cells.size ≤ c.size := by
            have : (i + 1) * sz ≤ l.length * sz := Nat.mul_le_mul_right _ hi
            rw [Nat.add_mul, Nat.one_mul] at this
            omega
          have hpos : base + eo * sz + i * sz = base + (eo + i) * sz := by rw [Nat.add_mul]; omega
          have W := wrote_setCells (us := (a.eval x).cells.toList) (o := base + eo * sz + i * sz) h2 (by simpa using hfit)
          have hfz2 : RepF (w.setCells b (base + eo * sz + i * sz) (a.eval x).cells.toList) C.Sh (froz (st.ev P T x)) (a.eval x) := RepF.keep (fun k hk => ⟨hk, W.other k (hbsh k hk)⟩) _ _ hfz'
          refine ⟨w.setCells b (base + eo * sz + i * sz) (a.eval x).cells.toList, C, ?_, ?_⟩
          · have hrun := run_storeAt (P := P) hI h2 h3 (v := a.eval x) (off := base + eo * sz + i * sz) (by omega) hfit (fun u hu => hr.one u hu)
            rw [Nat.add_zero] at hptr
            simp [execOp, ho, hptr, hrun]
          · rw [hd]
            have hsa := @Rep.setA w _ C g b base (base + eo * sz + i * sz) sz (eo + i) _ (froz (st.ev P T x)) (a.eval x) W hg hone hbsh rfl (by omega) (fun u hu => hr.one u hu) hfz2 hpos
            have hsl := @RepS.setL w _ C g b base (base + eo * sz + i * sz) sz (eo + i) _ (froz (st.ev P T x)) (a.eval x) W hg hone hbsh rfl (by omega) (fun u hu => hr.one u hu) hfz2 hpos
            exact { n := hc.n, slots := fun t => hsa _ _ (hc.slots t), defers := hc.defers,
                    boxes := fun id cs hid => by
                      simp only [St.setE, Option.map_eq_some_iff] at hid
                      obtain ⟨cs0, h0, rfl⟩ := hid
                      obtain ⟨b', c', e', lo', hi2, k1, k2, k3, k4⟩ := hc.boxes id cs0 h0
                      have hne : b' ≠ b := fun x => hbbox id (x ▸ k1)
                      exact ⟨b', c', e', lo', hi2, k1, (W.other _ hne).trans k2, k3, hsl _ _ k4⟩,
                    boxSome := fun id b' hb' => by
                      simp only [St.setE, Option.isSome_map]
                      exact hc.boxSome id b' hb',
                    mem := m.write (m.ownMine g b base hg hfrz), cons := hc.cons, made := hc.made, tg := hc.tg, tgInj := hc.tgInj, tgMade := hc.tgMade }
      · cases h
    · cases h
end Go.VS
