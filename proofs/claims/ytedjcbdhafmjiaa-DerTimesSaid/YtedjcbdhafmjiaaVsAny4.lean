/- Part of a framework that states what Go functions answer on values as data; it holds for every program of the model. -/
import Derived.Test.YtedjcbdhafmjiaaVsAny3
import Derived.Still
namespace Go.VS
set_option linter.unusedVariables false
set_option linter.unusedSimpArgs false
set_option linter.unusedSectionVars false
open Go
variable {P : Program}

/-! ### Any order -/

/-- The operation j may be carried out ahead of i. -/
def comm (P : Program) (ops : Array Oper) (i j : Oper) : Bool :=
  i.apart ops j && quiet P j && !isBox i && !isStore i

/-- What a quiet operation gives. -/
def jres (P : Program) (ops : Array Oper) (st : St) (o : Oper) : Option AV :=
  match o.guard with
  | none => pv P st o
  | some (j, want) =>
    match (ops[j]?).bind (·.dst) with
    | some g =>
      match st.s g with
      | .bool b => if b = want then pv P st o else some (.tup [])
      | .tup [] => some (.tup [])
      | _ => none
    | none => none

theorem vguard_quiet {n : Nat} {ops : Array Oper} {st : St} {o : Oper} (hq : quiet P o = true) {K : St → Prop} :
    vguard n ops st o (vop P n st o) K ↔ ∃ v, jres P ops st o = some v ∧ St.fits n o.dst = true ∧ K (st.putO o.dst v) := by
  have hv : vop P n st o K ↔ ∃ v, pv P st o = some v ∧ St.fits n o.dst = true ∧ K (st.putO o.dst v) := by
    constructor
    · intro h
      unfold vop at h
      split at h
      · rename_i s e
        obtain ⟨v, h1, h2, h3⟩ := quiet_step hq e
        cases h3
        exact ⟨v, h1, h2, h⟩
      · rename_i fa e
        obtain ⟨v, h1, h2, h3⟩ := quiet_step hq e
        cases h3
      · exact h.elim
    · rintro ⟨v, h1, h2, h3⟩
      unfold vop
      rw [vstep_quiet hq h1 h2]
      exact h3
  unfold vguard jres
  cases hg : o.guard with
  | none => exact hv
  | some p =>
    obtain ⟨j, want⟩ := p
    dsimp only
    cases hd : (ops[j]?).bind (·.dst) with
    | none => simp
    | some g =>
      dsimp only
      cases hs : st.s g with
      | bool b =>
        dsimp only
        by_cases e : b = want
        · simp only [e, ne_eq, not_true_eq_false, false_implies, and_true, true_implies, if_true]
          exact hv
        · simp only [e, false_implies, true_and, ne_eq, not_false_eq_true, true_implies, if_false, Option.some.injEq]
          constructor
          · exact fun h => ⟨_, rfl, h⟩
          · rintro ⟨v, rfl, h⟩; exact h
      | tup l =>
        cases l with
        | nil =>
          dsimp only
          constructor
          · exact fun h => ⟨_, rfl, h⟩
          · rintro ⟨v, hv, h⟩; cases hv; exact h
        | cons x y => simp
      | _ => simp

theorem jres_mono {ops : Array Oper} {st s : St} {i j : Oper} (hc : comm P ops i j = true) (he : Eff i st s) {v : AV} (h : jres P ops s j = some v) : jres P ops st j = some v := by
  unfold comm at hc
  simp only [Bool.and_eq_true, Bool.not_eq_true'] at hc
  obtain ⟨⟨⟨h1, h2⟩, h3⟩, h4⟩ := hc
  obtain ⟨a1, a2, a3⟩ := Oper.apart_spec h1
  have hs : ∀ t ∈ j.looksAt ops, s.s t = st.s t := fun t ht => he.slots t fun e => a1 t e ht
  have hpv : ∀ v, pv P s j = some v → pv P st j = some v := by
    intro v hv
    refine pv_mono he.le (fun T x hx => ev_agree fun t e => (hs t ?_).symm) (fun hl => ?_) hv
    · subst e
      unfold Oper.looksAt
      refine List.mem_append.2 (.inl (List.mem_filterMap.2 ⟨_, hx, rfl⟩))
    · exact he.bx.symm
  unfold jres at h ⊢
  split
  · rename_i hg
    rw [hg] at h
    exact hpv v h
  · rename_i g want hg
    rw [hg] at h
    simp only at h
    split at h
    · rename_i t ht
      rw [← hs t (by unfold Oper.looksAt; rw [hg]; simp [ht])]
      split at h
      · split at h
        · rename_i e; simp only [if_pos e]; exact hpv v h
        · rename_i e; simp only [if_neg e]; exact h
      · exact h
      · cases h
    · cases h

theorem vguard_putO {n : Nat} {ops : Array Oper} {st : St} {o : Oper} {d : Option Nat} {v : AV} (hl : ∀ k, d = some k → k ∉ o.looksAt ops) (hne : ∀ k, d = some k → o.dst ≠ some k) (hb : isBox o = false) (hst : isStore o = false)
    {K K' : St → Prop} (hk : ∀ s, K s → K' (s.putO d v)) (h : vguard n ops st o (vop P n st o) K) : vguard n ops (st.putO d v) o (vop P n (st.putO d v) o) K' := by
  cases d with
  | none => exact vguard_mono hk h
  | some d =>
    have hl := hl d rfl
    have hne := hne d rfl
    have ha : ∀ x ∈ o.op.operands.toList, x ≠ .tmp d := by
      rintro x hx rfl
      exact hl (List.mem_append.2 (.inl (List.mem_filterMap.2 ⟨_, hx, rfl⟩)))
    unfold vguard at h ⊢
    split at h
    · exact vop_put ha hne hb hst hk h
    · rename_i j want hg
      split at h
      · rename_i g hgd
        have hgne : g ≠ d := by
          rintro rfl
          exact hl (by unfold Oper.looksAt; rw [hg]; simp [hgd])
        simp only [St.putO, St.put, upd_ne _ _ hgne]
        split at h
        · refine ⟨fun e => vop_put ha hne hb hst hk (h.1 e), fun e => ⟨(h.2 e).1, ?_⟩⟩
          have := hk _ (h.2 e).2
          have e2 := put_putO (st := st) (v := v) (u := .tup []) hne
          change K' ((st.put d v).putO o.dst (.tup []))
          rw [e2]; exact this
        · refine ⟨h.1, ?_⟩
          have := hk _ h.2
          have e2 := put_putO (st := st) (v := v) (u := .tup []) hne
          change K' ((st.put d v).putO o.dst (.tup []))
          rw [e2]; exact this
        · exact h.elim
      · exact h.elim

/-- Two that stand one behind the other change places. -/
theorem swap {n : Nat} {ops : Array Oper} {st : St} {i j : Oper} {K : St → Prop} (hc : comm P ops i j = true)
    (h : vguard n ops st i (vop P n st i) fun s => vguard n ops s j (vop P n s j) K) : vguard n ops st j (vop P n st j) fun s => vguard n ops s i (vop P n s i) K := by
  have hc' := hc
  unfold comm at hc'
  simp only [Bool.and_eq_true, Bool.not_eq_true'] at hc'
  obtain ⟨⟨⟨h1, hq⟩, h3⟩, h4⟩ := hc'
  obtain ⟨a1, a2, a3⟩ := Oper.apart_spec h1
  obtain ⟨h5, s0, h6, h7⟩ := vguard_eff h3 h4 h
  obtain ⟨v, hv, hf, _⟩ := (vguard_quiet hq).1 h7
  have hv0 := jres_mono hc h6 hv
  refine (vguard_quiet hq).2 ⟨v, hv0, hf, ?_⟩
  refine vguard_putO (fun k hk => a3 k hk) (fun k hk e => a2 k e hk) h3 h4 ?_ h5
  rintro s ⟨he, hs⟩
  obtain ⟨v', hv', _, hK⟩ := (vguard_quiet hq).1 hs
  have := jres_mono hc he hv'
  rw [hv0] at this
  cases this
  exact hK
end Go.VS
