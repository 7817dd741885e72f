/- Part of a framework that states what Go functions answer on values as data; it holds for every program of the model. -/
import Derived.Test.YtedjcbdhafmjiaaVsAny
namespace Go.VS
set_option linter.unusedVariables false
set_option linter.unusedSimpArgs false
set_option linter.unusedSectionVars false
open Go
variable {P : Program}

def isBox (o : Oper) : Bool :=
  match o.op with
  | .alloc _ => true
  | .box _ _ => true
  | _ => false
def isStore (o : Oper) : Bool :=
  match o.op with
  | .store _ _ _ => true
  | _ => false

/-- Nothing but a value comes of it. -/
def quiet (P : Program) (o : Oper) : Bool :=
  match o.op with
  | .move _ | .assign _ | .pick .. | .nilCheck _ | .binOp .. | .unOp .. | .slice .. | .fieldAddr .. | .field .. | .indexAddr .. | .index .. | .load .. | .extract .. | .build .. | .makeFunc .. => true
  | .convert _ d _ =>
    match P.underlying d with
    | some (.slice _) => false
    | _ => true
  | .call c =>
    match c.callee with
    | .builtin .append => false
    | .builtin _ => true
    | _ => false
  | _ => false

theorem quiet_step {n : Nat} {st : St} {o : Oper} (hq : quiet P o = true) {x : St ⊕ (FuncId × List AV)} (h : vstep P n st o = some x) :
    ∃ v, pv P st o = some v ∧ St.fits n o.dst = true ∧ x = .inl (st.putO o.dst v) := by
  have hpv : need (St.fits n o.dst = true) ((pv P st o).bind fun v => some (.inl (st.putO o.dst v))) = some x → ∃ v, pv P st o = some v ∧ St.fits n o.dst = true ∧ x = .inl (st.putO o.dst v) := by
    intro h
    obtain ⟨h1, h2⟩ := need_some h
    obtain ⟨v, h3, h4⟩ := Option.bind_eq_some_iff.1 h2
    cases h4
    exact ⟨v, h3, h1, rfl⟩
  unfold quiet at hq
  unfold vstep at h
  split at h
  all_goals (rename_i ho; first | (exfalso; rw [ho] at hq; simp at hq; done) | skip)
  · rename_i S d x0
    obtain ⟨h1, h2⟩ := need_some h
    split at h2
    · rename_i v hv
      cases h2
      exact ⟨v, hv, h1, rfl⟩
    · obtain ⟨s, h3, h4⟩ := Option.bind_eq_some_iff.1 h2
      rw [ho] at hq
      simp only at hq
      exfalso
      unfold convOp at h3
      rw [ho] at h3
      simp only at h3
      split at h3
      · unfold sliceOp at h3
        rw [ho] at h3
        split at h3
        · rename_i e _; cases e
        · rename_i e _; cases e
        · rename_i e _
          cases e
          split at h3
          · rename_i hE
            rw [hE] at hq
            cases hq
          · cases h3
        · cases h3
      · unfold markOp at h3
        rw [ho] at h3
        simp only at h3
        split at h3
        · rename_i hE _
          rw [hE] at hq
          cases hq
        · cases h3
  · rename_i c
    rw [ho] at hq
    simp only at hq
    split at h
    · rename_i hb
      rw [hb] at hq; cases hq
    · rename_i hb
      rw [hb] at hq; cases hq
    · exact hpv h
  · exact hpv h

theorem vstep_quiet {n : Nat} {st : St} {o : Oper} (hq : quiet P o = true) {v : AV} (h : pv P st o = some v) (hf : St.fits n o.dst = true) :
    vstep P n st o = some (.inl (st.putO o.dst v)) := by
  have e : need (St.fits n o.dst = true) ((pv P st o).bind fun v => some (Sum.inl (β := FuncId × List AV) (st.putO o.dst v))) = some (.inl (st.putO o.dst v)) := by
    simp [need, hf, h]
  unfold quiet at hq
  unfold vstep
  split
  all_goals (rename_i ho; first | (exfalso; rw [ho] at hq; simp at hq; done) | skip)
  · simp [need, hf, h]
  · rename_i c
    rw [ho] at hq
    simp only at hq
    split
    · rename_i hb
      rw [hb] at hq; cases hq
    · rename_i hb
      rw [hb] at hq; cases hq
    · exact e
  · exact e

/-- What an operation leaves as it was. -/
structure Eff (o : Oper) (st s : St) : Prop where
  le : ConsLe st s
  slots : ∀ t, o.dst ≠ some t → s.s t = st.s t
  bx : s.bx = st.bx

theorem putO_slots {st : St} {d : Option Nat} {v : AV} : ∀ t, d ≠ some t → (st.putO d v).s t = st.s t := by
  intro t ht
  cases d with
  | none => rfl
  | some d => exact upd_ne _ _ (fun e => ht (by rw [e]))

theorem Eff.putO (o : Oper) (st : St) (v : AV) : Eff o st (st.putO o.dst v) :=
  ⟨fun g h => by cases hd : o.dst <;> exact h, putO_slots, by cases hd : o.dst <;> rfl⟩

theorem ConsLe.upd {st : St} {x y : Stamp → Bool} (h : ∀ g, x g = true → y g = true) (hx : st.cons = x) {s : St} (hy : s.cons = y) : ConsLe st s := fun g hg => by rw [hy]; exact h g (by rw [← hx]; exact hg)

theorem updS_le {f : Stamp → Bool} {k g : Stamp} (h : f g = true) : updS f k true g = true := by
  unfold updS
  split <;> first | rfl | exact h

theorem mkNews_le : ∀ (ks : List Nat) (st : St), ConsLe st (st.mkNews ks) ∧ (st.mkNews ks).s = st.s ∧ (st.mkNews ks).bx = st.bx
  | [], st => ⟨fun _ h => h, rfl, rfl⟩
  | k :: ks, st => by
    obtain ⟨h1, h2, h3⟩ := mkNews_le ks (st.mkNew k)
    exact ⟨fun g hg => h1 g (updS_le hg), h2, h3⟩

theorem appOp_eff {st s : St} {o : Oper} (h : appOp P st o = some s) : Eff o st s := by
  unfold appOp at h
  split at h
  · rename_i c d ho hd
    split at h
    · split at h
      · split at h
        · obtain ⟨l', _, h⟩ := Option.bind_eq_some_iff.1 h
          obtain ⟨_, h⟩ := need_some h
          split at h <;> (obtain ⟨_, h⟩ := need_some h; cases h)
          · exact ⟨fun g hg => updS_le hg, fun t ht => upd_ne _ _ (fun e => ht (by rw [hd, e])), rfl⟩
          · exact ⟨fun g hg => updS_le hg, fun t ht => upd_ne _ _ (fun e => ht (by rw [hd, e])), rfl⟩
        · cases h
      · cases h
    · cases h
  · cases h

theorem freezeL_eff (gs : List Stamp) (st : St) : ConsLe st (st.freezeL gs) ∧ (st.freezeL gs).s = st.s ∧ (st.freezeL gs).bx = st.bx := by
  obtain ⟨h1, h2, h3, _⟩ := freezeL_same gs st
  exact ⟨fun g hg => by rw [h3]; exact hg, h1, h2⟩

theorem sliceOp_eff {st s : St} {o : Oper} (h : sliceOp P st o = some s) : Eff o st s := by
  unfold sliceOp at h
  split at h
  · rename_i ho hd
    split at h
    · obtain ⟨z0, _, h⟩ := Option.bind_eq_some_iff.1 h
      obtain ⟨r, _, h⟩ := Option.bind_eq_some_iff.1 h
      obtain ⟨_, h⟩ := need_some h
      cases h
      obtain ⟨h1, h2, h3⟩ := freezeL_eff r.2 st
      exact ⟨fun g hg => updS_le (h1 g hg), fun t ht => (upd_ne _ _ (fun e => ht (by rw [hd, e]))).trans (by simp only [St.mkNew, h2]), h3⟩
    · cases h
  · rename_i ho hd
    split at h
    · obtain ⟨z0, _, h⟩ := Option.bind_eq_some_iff.1 h
      obtain ⟨l, _, h⟩ := Option.bind_eq_some_iff.1 h
      obtain ⟨c, _, h⟩ := Option.bind_eq_some_iff.1 h
      obtain ⟨_, h⟩ := need_some h
      cases h
      exact ⟨fun g hg => updS_le hg, fun t ht => upd_ne _ _ (fun e => ht (by rw [hd, e])), rfl⟩
    · cases h
  · rename_i ho hd
    split at h
    · split at h
      · obtain ⟨_, h⟩ := need_some h
        cases h
        exact ⟨fun g hg => updS_le hg, fun t ht => upd_ne _ _ (fun e => ht (by rw [hd, e])), rfl⟩
      · cases h
    · cases h
  · cases h

theorem convOp_eff {st s : St} {o : Oper} (h : convOp P st o = some s) : Eff o st s := by
  unfold convOp at h
  split at h
  · split at h
    · exact sliceOp_eff h
    · unfold markOp at h
      split at h
      · split at h
        · obtain ⟨_, h⟩ := need_some h
          cases h
          exact Eff.putO o st _
        · cases h
      · cases h
  · cases h

theorem callSt_eff {st s : St} {o : Oper} {as : List AV} {r : AV} (h : callSt st o.dst as r = some s) : Eff o st s := by
  unfold callSt at h
  split at h
  · cases h; exact Eff.putO o st r
  · split at h
    · rename_i d hd
      simp only at h
      obtain ⟨_, h⟩ := need_some h
      cases h
      obtain ⟨h1, h2, h3⟩ := freezeL_eff (as.flatMap stampsOf) st
      obtain ⟨g1, g2, g3⟩ := mkNews_le ((posOf r).map (nm d)) (st.freezeL (as.flatMap stampsOf))
      exact ⟨fun g hg => g1 g (h1 g hg), fun t ht => (upd_ne _ _ (fun e => ht (by rw [hd, e]))).trans (by rw [g2, h2]), g3.trans h3⟩
    · cases h

theorem vstep_eff {n : Nat} {st s : St} {o : Oper} (hb : isBox o = false) (hs : isStore o = false) (h : vstep P n st o = some (.inl s)) : Eff o st s := by
  have hpv : need (St.fits n o.dst = true) ((pv P st o).bind fun v => some (.inl (st.putO o.dst v))) = some (Sum.inl (β := FuncId × List AV) s) → Eff o st s := by
    intro h
    obtain ⟨h1, h2⟩ := need_some h
    obtain ⟨v, h3, h4⟩ := Option.bind_eq_some_iff.1 h2
    cases h4
    exact Eff.putO o st v
  have hsl : need (St.fits n o.dst = true) ((sliceOp P st o).bind fun s => some (.inl s)) = some (Sum.inl (β := FuncId × List AV) s) → Eff o st s := by
    intro h
    obtain ⟨h1, h2⟩ := need_some h
    obtain ⟨v, h3, h4⟩ := Option.bind_eq_some_iff.1 h2
    cases h4
    exact sliceOp_eff h3
  unfold vstep at h
  split at h
  · rename_i ho; simp [isBox, ho] at hb
  · rename_i ho; simp [isBox, ho] at hb
  · rename_i ho; simp [isStore, ho] at hs
  · exact hsl h
  · exact hsl h
  · obtain ⟨h1, h2⟩ := need_some h
    split at h2
    · cases h2; exact Eff.putO o st _
    · obtain ⟨v, h3, h4⟩ := Option.bind_eq_some_iff.1 h2
      cases h4
      exact convOp_eff h3
  · split at h
    · obtain ⟨h1, h2⟩ := need_some h
      obtain ⟨v, h3, h4⟩ := Option.bind_eq_some_iff.1 h2
      cases h4
      exact appOp_eff h3
    · obtain ⟨fa, h1, h2⟩ := Option.bind_eq_some_iff.1 h
      obtain ⟨_, h3⟩ := need_some h2
      cases h3
    · exact hpv h
  · exact hpv h

theorem vguard_eff {n : Nat} {ops : Array Oper} {st : St} {o : Oper} {K : St → Prop} (hb : isBox o = false) (hs : isStore o = false) (h : vguard n ops st o (vop P n st o) K) :
    vguard n ops st o (vop P n st o) (fun s => Eff o st s ∧ K s) ∧ ∃ s, Eff o st s ∧ K s := by
  have hv : vop P n st o K → vop P n st o (fun s => Eff o st s ∧ K s) ∧ ∃ s, Eff o st s ∧ K s := by
    intro h
    unfold vop at h ⊢
    split at h
    · rename_i s e
      exact ⟨⟨vstep_eff hb hs e, h⟩, s, vstep_eff hb hs e, h⟩
    · rename_i fa e
      obtain ⟨r, h1, h2⟩ := h
      split at h2
      · rename_i s hs
        refine ⟨⟨r, h1, ?_⟩, s, callSt_eff hs, h2⟩
        simp only [hs]
        exact ⟨callSt_eff hs, h2⟩
      · exact h2.elim
    · exact h.elim
  unfold vguard at h ⊢
  split at h
  · exact hv h
  · split at h
    · split at h
      · rename_i j want hg _ g hgd _ b hb'
        refine ⟨⟨fun e => (hv (h.1 e)).1, fun e => ⟨(h.2 e).1, Eff.putO o st _, (h.2 e).2⟩⟩, ?_⟩
        by_cases e : b = want
        · exact (hv (h.1 e)).2
        · exact ⟨_, Eff.putO o st _, (h.2 e).2⟩
      · exact ⟨⟨h.1, Eff.putO o st _, h.2⟩, _, Eff.putO o st _, h.2⟩
      · exact h.elim
    · exact h.elim
end Go.VS
