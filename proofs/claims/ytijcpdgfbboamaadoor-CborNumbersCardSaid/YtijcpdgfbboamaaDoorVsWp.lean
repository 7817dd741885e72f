/- Part of a framework that states what Go functions answer on values as data; it holds for every program of the model. -/
import Derived.Test.YtijcpdgfbboamaaDoorVsMark
namespace Go.VS
set_option linter.unusedVariables false
set_option linter.unusedSimpArgs false
set_option linter.unusedSectionVars false
open Go
variable {P : Program}

/-! ### Operations, one behind the other -/

/-- One operation: where it leads, or what it calls. -/
def vstep (P : Program) (n : Nat) (st : St) (o : Oper) : Option (St ⊕ (FuncId × List AV)) :=
  match o.op with
  | .alloc _ | .box _ _ =>
    match o.dst with
    | some d =>
      if (st.bx d).isNone = true then (newBox P st o).bind fun cs => need (d < n) (some (.inl (({ st with bx := upd st.bx d (some cs) } : St).put d (.ptr d 0))))
      else (newBox P (st.dropBox d) o).bind fun cs => need (d < n ∧ d < 1000000) (some (.inl (({ st.dropBox d with bx := upd (st.dropBox d).bx d (some cs) } : St).put d (.ptr d 0))))
    | none => none
  | .store _ a _ =>
    match o.dst with
    | none =>
      match st.ev P 0 a with
      | .eptr .. => (storeEl P st o).bind fun s => some (.inl s)
      | _ => (storeBox P st o).bind fun r => some (.inl { st with bx := upd st.bx r.1 (some r.2) })
    | some _ => none
  | .buildSlice _ _ _ | .makeSlice _ _ _ => need (St.fits n o.dst = true) ((sliceOp P st o).bind fun s => some (.inl s))
  | .convert _ _ _ => need (St.fits n o.dst = true)
      (match pv P st o with
       | some v => some (.inl (st.putO o.dst v))
       | none => (convOp P st o).bind fun s => some (.inl s))
  | .call c =>
    match c.callee with
    | .builtin .append => need (St.fits n o.dst = true) ((appOp P st o).bind fun s => some (.inl s))
    | .value _ => (calls P st o).bind fun fa => need (callOk P fa.1 = true ∧ argsOk st fa.2 = true ∧ St.fits n o.dst = true) (some (.inr fa))
    | _ => need (St.fits n o.dst = true) ((pv P st o).bind fun v => some (.inl (st.putO o.dst v)))
  | _ => need (St.fits n o.dst = true) ((pv P st o).bind fun v => some (.inl (st.putO o.dst v)))

def vop (P : Program) (n : Nat) (st : St) (o : Oper) (K : St → Prop) : Prop :=
  match vstep P n st o with
  | some (.inl st') => K st'
  | some (.inr fa) => ∃ r, CallsP P fa.1 (fa.2.map froz) r ∧
      (match callSt st o.dst fa.2 r with
       | some st' => K st'
       | none => False)
  | none => False

theorem vop_mono {n : Nat} {st : St} {o : Oper} {K K' : St → Prop} (hk : ∀ s, K s → K' s) (h : vop P n st o K) : vop P n st o K' := by
  unfold vop at h ⊢
  split at h
  · exact hk _ h
  · obtain ⟨r, h1, h2⟩ := h
    refine ⟨r, h1, ?_⟩
    split at h2
    · exact hk _ h2
    · exact h2.elim
  · exact h.elim

theorem vstep_inl {X : Ent} {st st' : St} {o : Oper} (h : vstep P X.n st o = some (.inl st')) : OpStep P X st o st' := by
  have hpv : need (St.fits X.n o.dst = true) ((pv P st o).bind fun v => some (.inl (st.putO o.dst v))) = some (Sum.inl (β := FuncId × List AV) st') → OpStep P X st o st' := by
    intro h
    obtain ⟨h1, h2⟩ := need_some h
    obtain ⟨v, h3, h4⟩ := Option.bind_eq_some_iff.1 h2
    cases h4
    exact step_pv h3 h1
  have hsl : need (St.fits X.n o.dst = true) ((sliceOp P st o).bind fun s => some (.inl s)) = some (Sum.inl (β := FuncId × List AV) st') → OpStep P X st o st' := by
    intro h
    obtain ⟨h1, h2⟩ := need_some h
    obtain ⟨v, h3, h4⟩ := Option.bind_eq_some_iff.1 h2
    cases h4
    exact step_slice h3 h1
  have hbx : (match o.dst with
    | some d =>
      if (st.bx d).isNone = true then (newBox P st o).bind fun cs => need (d < X.n) (some (.inl (({ st with bx := upd st.bx d (some cs) } : St).put d (.ptr d 0))))
      else (newBox P (st.dropBox d) o).bind fun cs => need (d < X.n ∧ d < 1000000) (some (.inl (({ st.dropBox d with bx := upd (st.dropBox d).bx d (some cs) } : St).put d (.ptr d 0))))
    | none => none) = some (Sum.inl (β := FuncId × List AV) st') → OpStep P X st o st' := by
    intro h
    split at h
    · rename_i d hd
      split at h
      · rename_i hn
        obtain ⟨cs, h1, h2⟩ := Option.bind_eq_some_iff.1 h
        obtain ⟨h3, h4⟩ := need_some h2
        cases h4
        exact step_box h1 hd h3 (by simpa using hn)
      · obtain ⟨cs, h1, h2⟩ := Option.bind_eq_some_iff.1 h
        obtain ⟨h3, h4⟩ := need_some h2
        cases h4
        have hs := step_box (X := X) h1 hd h3.1 (by simp [St.dropBox])
        exact fun C a w hc K' Q hK => hs _ a w (hc.dropBox d h3.2) K' Q hK
    · cases h
  unfold vstep at h
  split at h
  · exact hbx h
  · exact hbx h
  · split at h
    · rename_i hd
      split at h
      · obtain ⟨r, h1, h2⟩ := Option.bind_eq_some_iff.1 h
        cases h2
        exact step_storeEl h1 hd
      · obtain ⟨r, h1, h2⟩ := Option.bind_eq_some_iff.1 h
        cases h2
        obtain ⟨id, cs⟩ := r
        exact step_store h1 hd
    · cases h
  · exact hsl h
  · exact hsl h
  · obtain ⟨h1, h2⟩ := need_some h
    split at h2
    · rename_i v hv
      cases h2
      exact step_pv hv h1
    · obtain ⟨v, h3, h4⟩ := Option.bind_eq_some_iff.1 h2
      cases h4
      exact step_conv h3 h1
  · split at h
    · obtain ⟨h1, h2⟩ := need_some h
      obtain ⟨v, h3, h4⟩ := Option.bind_eq_some_iff.1 h2
      cases h4
      exact step_app h3 h1
    · obtain ⟨fa, h1, h2⟩ := Option.bind_eq_some_iff.1 h
      obtain ⟨_, h3⟩ := need_some h2
      cases h3
    · exact hpv h
  · exact hpv h

theorem vstep_inr {n : Nat} {st : St} {o : Oper} {fa : FuncId × List AV} (h : vstep P n st o = some (.inr fa)) : calls P st o = some fa ∧ callOk P fa.1 = true ∧ argsOk st fa.2 = true ∧ St.fits n o.dst = true := by
  have hpv : need (St.fits n o.dst = true) ((pv P st o).bind fun v => some (.inl (st.putO o.dst v))) = some (Sum.inr (α := St) fa) → False := by
    intro h
    obtain ⟨h1, h2⟩ := need_some h
    obtain ⟨v, h3, h4⟩ := Option.bind_eq_some_iff.1 h2
    cases h4
  have hsl : need (St.fits n o.dst = true) ((sliceOp P st o).bind fun s => some (.inl s)) = some (Sum.inr (α := St) fa) → False := by
    intro h
    obtain ⟨h1, h2⟩ := need_some h
    obtain ⟨v, h3, h4⟩ := Option.bind_eq_some_iff.1 h2
    cases h4
  have hbx : (match o.dst with
    | some d =>
      if (st.bx d).isNone = true then (newBox P st o).bind fun cs => need (d < n) (some (.inl (({ st with bx := upd st.bx d (some cs) } : St).put d (.ptr d 0))))
      else (newBox P (st.dropBox d) o).bind fun cs => need (d < n ∧ d < 1000000) (some (.inl (({ st.dropBox d with bx := upd (st.dropBox d).bx d (some cs) } : St).put d (.ptr d 0))))
    | none => none) = some (Sum.inr (α := St) fa) → False := by
    intro h
    split at h
    · split at h <;>
      · obtain ⟨cs, h1, h2⟩ := Option.bind_eq_some_iff.1 h
        obtain ⟨h3, h4⟩ := need_some h2
        cases h4
    · cases h
  unfold vstep at h
  split at h
  · exact (hbx h).elim
  · exact (hbx h).elim
  · split at h
    · split at h
      · obtain ⟨r, h1, h2⟩ := Option.bind_eq_some_iff.1 h
        cases h2
      · obtain ⟨r, h1, h2⟩ := Option.bind_eq_some_iff.1 h
        cases h2
    · cases h
  · exact (hsl h).elim
  · exact (hsl h).elim
  · obtain ⟨h1, h2⟩ := need_some h
    split at h2
    · cases h2
    · obtain ⟨v, h3, h4⟩ := Option.bind_eq_some_iff.1 h2
      cases h4
  · split at h
    · obtain ⟨h1, h2⟩ := need_some h
      obtain ⟨v, h3, h4⟩ := Option.bind_eq_some_iff.1 h2
      cases h4
    · obtain ⟨fa', h1, h2⟩ := Option.bind_eq_some_iff.1 h
      obtain ⟨h3, h4⟩ := need_some h2
      cases h4
      exact ⟨h1, h3.1, h3.2.1, h3.2.2⟩
    · exact (hpv h).elim
  · exact (hpv h).elim

theorem vop_sound {X : Ent} {st : St} {o : Oper} {K : St → Prop} (h : vop P X.n st o K) : ∃ st', OpStep P X st o st' ∧ K st' := by
  unfold vop at h
  split at h
  · rename_i st' e
    exact ⟨_, vstep_inl e, h⟩
  · rename_i fa e
    obtain ⟨h1, h2, h3, h4⟩ := vstep_inr e
    obtain ⟨f, as⟩ := fa
    obtain ⟨r, h5, h6⟩ := h
    split at h6
    · rename_i st' hst
      exact ⟨_, step_call h1 h2 h3 h5 hst h4, h6⟩
    · exact h6.elim
  · exact h.elim

/-- Is it carried out? What is not leaves nothing. -/
def vguard (n : Nat) (ops : Array Oper) (st : St) (o : Oper) (run : (St → Prop) → Prop) (K : St → Prop) : Prop :=
  match o.guard with
  | none => run K
  | some (j, want) =>
    match (ops[j]?).bind (·.dst) with
    | some g =>
      match st.s g with
      | .bool b => (b = want → run K) ∧ (b ≠ want → St.fits n o.dst = true ∧ K (st.putO o.dst (.tup [])))
      | .tup [] => St.fits n o.dst = true ∧ K (st.putO o.dst (.tup []))
      | _ => False
    | none => False

def vops (P : Program) (n : Nat) (ops : Array Oper) : List Oper → St → (St → Prop) → Prop
  | [], st, K => K st
  | o :: os, st, K => vguard n ops st o (vop P n st o) fun st' => vops P n ops os st' K

theorem yielded_of {X : Ent} {st : St} {C : Ctx} {a : Act} {w : World} (hc : Conc X st C a w) {ops : Array Oper} {j g : Nat} {b : Bool} (hg : (ops[j]?).bind (·.dst) = some g) (hb : st.s g = .bool b) :
    yielded ops a.tmps j = some b := by
  have h := hc.slots g
  rw [hb] at h
  simp only [Rep] at h
  unfold yielded
  rw [hg]
  simp only [Option.bind_some]
  rw [Array.getD_eq_getD_getElem?] at h
  cases e : a.tmps[g]? with
  | none => rw [e] at h; simp [undef] at h
  | some v => rw [e] at h; simp only [Option.getD_some] at h; subst h; rfl

theorem yielded_skip {X : Ent} {st : St} {C : Ctx} {a : Act} {w : World} (hc : Conc X st C a w) {ops : Array Oper} {j g : Nat} (hg : (ops[j]?).bind (·.dst) = some g) (hb : st.s g = .tup []) :
    yielded ops a.tmps j = none := by
  have h := hc.slots g
  rw [hb] at h
  obtain ⟨vs, h1, h2⟩ := h
  simp only [RepSU] at h2
  subst h2
  unfold yielded
  rw [hg]
  simp only [Option.bind_some]
  rw [Array.getD_eq_getD_getElem?] at h1
  cases e : a.tmps[g]? with
  | none => rfl
  | some v => rw [e] at h1; simp only [Option.getD_some] at h1; subst h1; rfl

theorem vguard_sound {X : Ent} {ops : Array Oper} {st : St} {i : Nat} {o : Oper} {K : St → Prop} (hi : ops[i]? = some o) (h : vguard X.n ops st o (vop P X.n st o) K)
    {C : Ctx} {a : Act} {w : World} (hc : Conc X st C a w) {Kc : Act → World → Prop} {Q : Exit → Act → World → Prop} (hK : ∀ st' C' a' w', K st' → Conc X st' C' a' w' → Kc a' w') : wpOp P ops Q i Kc a w := by
  unfold wpOp
  rw [hi]
  simp only
  unfold vguard at h
  split at h
  · rename_i hg
    have hw : Region.wanted o (yielded ops a.tmps) = true := by simp [Region.wanted, hg]
    rw [if_pos hw]
    obtain ⟨st', h1, h2⟩ := vop_sound h
    exact .inl (h1 C a w hc Kc Q fun C' a' w' hc' => hK st' C' a' w' h2 hc')
  · rename_i j want hg
    split at h
    · rename_i g hgd
      split at h
      · rename_i b hb
        have hy := yielded_of hc hgd hb
        by_cases e : b = want
        · have hw : Region.wanted o (yielded ops a.tmps) = true := by simp [Region.wanted, hg, hy, e]
          rw [if_pos hw]
          obtain ⟨st', h1, h2⟩ := vop_sound (h.1 e)
          exact .inl (h1 C a w hc Kc Q fun C' a' w' hc' => hK st' C' a' w' h2 hc')
        · have hw : ¬ (Region.wanted o (yielded ops a.tmps) = true) := by simp [Region.wanted, hg, hy, e]
          rw [if_neg hw]
          obtain ⟨h1, h2⟩ := h.2 e
          exact hK _ C _ w h2 (hc.putO h1 ⟨[], rfl, rfl⟩)
      · rename_i hb
        have hy := yielded_skip hc hgd hb
        have hw : ¬ (Region.wanted o (yielded ops a.tmps) = true) := by simp [Region.wanted, hg, hy]
        rw [if_neg hw]
        exact hK _ C _ w h.2 (hc.putO h.1 ⟨[], rfl, rfl⟩)
      · exact h.elim
    · exact h.elim

/-- Operations in an order. -/
def vidx (P : Program) (n : Nat) (ops : Array Oper) : List Nat → St → (St → Prop) → Prop
  | [], st, K => K st
  | i :: is, st, K =>
    match ops[i]? with
    | some o => vguard n ops st o (vop P n st o) fun st' => vidx P n ops is st' K
    | none => False

theorem vidx_sound {X : Ent} {ops : Array Oper} {Q : Exit → Act → World → Prop} : ∀ (is : List Nat) (st : St) (K : St → Prop), vidx P X.n ops is st K → ∀ (C : Ctx) (a : Act) (w : World), Conc X st C a w →
    (∀ st' C' a' w', K st' → Conc X st' C' a' w' → Q .normal a' w') → wpOps P ops Q is a w
  | [], st, K, h, C, a, w, hc, hK => hK st C a w h hc
  | i :: is, st, K, h, C, a, w, hc, hK => by
    rw [wpOps_cons]
    simp only [vidx] at h
    split at h
    · rename_i o hi
      exact vguard_sound hi h hc fun st' C' a' w' h' hc' => vidx_sound is st' K h' C' a' w' hc' hK
    · exact h.elim

theorem vguard_mono {n : Nat} {ops : Array Oper} {st : St} {o : Oper} {K K' : St → Prop} (hk : ∀ s, K s → K' s) (h : vguard n ops st o (vop P n st o) K) : vguard n ops st o (vop P n st o) K' := by
  unfold vguard at h ⊢
  split at h
  · exact vop_mono hk h
  · split at h
    · split at h
      · exact ⟨fun e => vop_mono hk (h.1 e), fun e => ⟨(h.2 e).1, hk _ (h.2 e).2⟩⟩
      · exact ⟨h.1, hk _ h.2⟩
      · exact h.elim
    · exact h.elim

theorem vops_idx {n : Nat} {ops : Array Oper} {K : St → Prop} : ∀ (l : List Oper) (k : Nat) (st : St), ops.toList.drop k = l → vops P n ops l st K → vidx P n ops (List.range' k l.length) st K
  | [], k, st, _, h => h
  | o :: l, k, st, hl, h => by
    have hk : ops[k]? = some o := by
      have h0 : (ops.toList.drop k)[0]? = some o := by rw [hl]; rfl
      simpa [List.getElem?_drop] using h0
    simp only [List.length_cons, List.range'_succ, vidx, hk]
    simp only [vops] at h
    have hd : ops.toList.drop (k + 1) = l := by rw [← List.drop_drop, hl]; rfl
    exact vguard_mono (fun s hs => vops_idx l (k + 1) s hd hs) h

/-! ### Code -/

def AWP (P : Program) (X : Ent) (c : Code) (Q : Exit → St → Prop) (st : St) : Prop :=
  ∀ (C : Ctx) (a : Act) (w : World), Conc X st C a w → c.wp P (fun e a' w' => ∃ st' C', Q e st' ∧ Conc X st' C' a' w') a w

theorem AWP.mono {X : Ent} {c : Code} {Q Q' : Exit → St → Prop} {st : St} (h : AWP P X c Q st) (hq : ∀ e s, Q e s → Q' e s) : AWP P X c Q' st :=
  fun C a w hc => wp_mono (h C a w hc) fun e a' w' ⟨st', C', h1, h2⟩ => ⟨st', C', hq e st' h1, h2⟩

/-- What holds of less that is known holds. -/
theorem AWP.weaken {X : Ent} {c : Code} {Q : Exit → St → Prop} {st st' : St} (h : AWP P X c Q st') (hw : ∀ C a w, Conc X st C a w → ∃ C', Conc X st' C' a w) : AWP P X c Q st := by
  intro C a w hc
  obtain ⟨C', hc'⟩ := hw C a w hc
  exact h C' a w hc'

def norm (ks : List Nat) (st : St) : St := st.settle.keep ks

theorem Conc.norm {X : Ent} {st : St} {C : Ctx} {a : Act} {w : World} (hc : Conc X st C a w) (ks : List Nat) : ∃ C', Conc X (VS.norm ks st) C' a w := by
  obtain ⟨C', h⟩ := hc.settle
  exact ⟨C', h.keep ks⟩

theorem AWP.region {X : Ent} {ks : List Nat} {id : Nat} {ops : Array Oper} {Q : Exit → St → Prop} {st : St} (h : vops P X.n ops ops.toList st fun s => Q .normal (norm ks s)) : AWP P X (.region id ops false) Q st := by
  intro C a w hc
  refine wp_region ?_
  have hi := vops_idx ops.toList 0 st (by simp) h
  have : List.range' 0 ops.toList.length = List.range ops.size := by simp [List.range_eq_range']
  rw [this] at hi
  refine vidx_sound _ st _ hi C a w hc fun st' C' a' w' hq hc' => ?_
  obtain ⟨C2, h2⟩ := hc'.norm ks
  exact ⟨_, C2, hq, h2⟩

def thenS (next : St → Prop) (Q : Exit → St → Prop) : Exit → St → Prop
  | .normal, s => next s
  | e, s => Q e s

theorem AWP.seq {X : Ent} {x y : Code} {Q : Exit → St → Prop} {st : St} (h : AWP P X x (thenS (AWP P X y Q) Q) st) : AWP P X (.seq x y) Q st := by
  intro C a w hc
  refine wp_seq (wp_mono (h C a w hc) ?_)
  rintro e a' w' ⟨st', C', h1, h2⟩
  cases e with
  | normal => exact h1 C' a' w' h2
  | _ => exact ⟨st', C', h1, h2⟩

theorem AWP.cond {X : Ent} {c : Operand} {x y : Code} {Q : Exit → St → Prop} {st : St} {b : Bool} (hb : st.ev P 0 c = .bool b) (ht : b = true → AWP P X x Q st) (hf : b = false → AWP P X y Q st) :
    AWP P X (.cond c x y) Q st := by
  intro C a w hc
  have h := hc.ev P 0 c
  rw [hb] at h
  simp only [Rep] at h
  exact wp_cond_split h (fun e => ht e C a w hc) (fun e => hf e C a w hc)

def blockS (id : Nat) (Q : Exit → St → Prop) : Exit → St → Prop
  | .exit id', s => if id' = id then Q .normal s else Q (.exit id') s
  | e, s => Q e s

theorem AWP.block {X : Ent} {id : Nat} {c : Code} {Q : Exit → St → Prop} {st : St} (h : AWP P X c (blockS id Q) st) : AWP P X (.block id c) Q st := by
  intro C a w hc
  refine wp_block (wp_mono (h C a w hc) ?_)
  rintro e a' w' ⟨st', C', h1, h2⟩
  cases e with
  | exit id' =>
    simp only [blockS] at h1
    simp only [Exit.inBlock]
    split at h1
    · rename_i e; rw [if_pos e]; exact ⟨st', C', h1, h2⟩
    · rename_i e; rw [if_neg e]; exact ⟨st', C', h1, h2⟩
  | _ => exact ⟨st', C', h1, h2⟩

theorem AWP.exit {X : Ent} {id : Nat} {Q : Exit → St → Prop} {st : St} (h : Q (.exit id) st) : AWP P X (.exit id) Q st := fun C _ _ hc => wp_exit ⟨st, C, h, hc⟩
theorem AWP.ret {X : Ent} {Q : Exit → St → Prop} {st : St} (h : Q .ret st) : AWP P X .ret Q st := fun C _ _ hc => wp_ret ⟨st, C, h, hc⟩
theorem AWP.skip {X : Ent} {Q : Exit → St → Prop} {st : St} (h : Q .normal st) : AWP P X .skip Q st := fun C _ _ hc => wp_skip ⟨st, C, h, hc⟩
theorem AWP.label {X : Ent} {l : Nat} {Q : Exit → St → Prop} {st : St} (h : Q .normal st) : AWP P X (.label l) Q st := fun C _ _ hc => wp_label ⟨st, C, h, hc⟩

/-- A loop: what holds at each round's head, and what goes down. -/
theorem AWP.loop {X : Ent} {c : Code} {Q : Exit → St → Prop} {st : St} (I : St → Prop) (μ : St → Nat) (h0 : I st)
    (round : ∀ s, I s → AWP P X c (thenS (fun s' => I s' ∧ μ s' < μ s) Q) s) : AWP P X (.loop c) Q st := by
  have key : ∀ n (s : St), μ s = n → I s → ∀ (C : Ctx) (a : Act) (w : World), Conc X s C a w → ∀ (b : Frame) (k : List Item) (cs : List Frame),
      ∃ e a' w', (∃ st' C', Q e st' ∧ Conc X st' C' a' w') ∧ Arrives P (lone (b.at a (.code c :: .inLoop c :: k)) cs w) b k cs e a' w' := by
    intro n
    induction n using Nat.strongRecOn with
    | _ n ih =>
      intro s hn hI C a w hc b k cs
      obtain ⟨e, a1, w1, ⟨s1, C1, hq, hc1⟩, harr⟩ := round s hI C a w hc b (.inLoop c :: k) cs
      cases e with
      | normal =>
        obtain ⟨hI1, hlt⟩ := hq
        obtain ⟨e2, a2, w2, hq2, harr2⟩ := ih (μ s1) (hn ▸ hlt) s1 rfl hI1 C1 a1 w1 hc1 b k cs
        exact ⟨e2, a2, w2, hq2, .of_steps (Steps.trans harr (.one step_inLoop)) harr2⟩
      | exit id => exact ⟨_, a1, w1, ⟨s1, C1, hq, hc1⟩, .pass (x := .inLoop c) rfl (fun _ _ => .inl (by simp)) harr⟩
      | goto l => exact ⟨_, a1, w1, ⟨s1, C1, hq, hc1⟩, .pass (x := .inLoop c) rfl (fun _ _ => .inl (by simp)) harr⟩
      | ret => exact ⟨_, a1, w1, ⟨s1, C1, hq, hc1⟩, .pass (x := .inLoop c) rfl (fun _ _ => .inl (by simp)) harr⟩
      | panic ch => exact ⟨_, a1, w1, ⟨s1, C1, hq, hc1⟩, .pass (x := .inLoop c) rfl (fun _ _ => .inl (by simp)) harr⟩
      | outgrown => exact ⟨_, a1, w1, ⟨s1, C1, hq, hc1⟩, .pass (x := .inLoop c) rfl (fun _ _ => .inl (by simp)) harr⟩
  intro C a w hc b k cs
  obtain ⟨e, a', w', hq, harr⟩ := key _ st rfl h0 C a w hc b k cs
  exact ⟨e, a', w', hq, .of_steps (.one step_loop) harr⟩

end Go.VS
