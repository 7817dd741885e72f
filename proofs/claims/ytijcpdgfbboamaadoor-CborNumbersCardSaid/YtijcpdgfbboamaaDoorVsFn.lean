/- Part of a framework that states what Go functions answer on values as data; it holds for every program of the model. -/
import Derived.Test.YtijcpdgfbboamaaDoorVsWp
namespace Go.VS
set_option linter.unusedVariables false
set_option linter.unusedSimpArgs false
set_option linter.unusedSectionVars false
open Go
variable {P : Program}

mutual
def stA : AV → List Stamp
  | .sl (some (g, _)) _ _ _ => [g]
  | .agg cs => stAL cs
  | .tup cs => stAL cs
  | .fn _ cs => stAL cs
  | _ => []
def stAL : List AV → List Stamp
  | [] => []
  | c :: cs => stA c ++ stAL cs
end
mutual
def closed : AV → Bool
  | .ptr .. => false
  | .bsl .. => false
  | .eptr .. => false
  | .agg cs => closedL cs
  | .tup cs => closedL cs
  | .fn _ cs => closedL cs
  | _ => true
def closedL : List AV → Bool
  | [] => true
  | c :: cs => closed c && closedL cs
end
mutual
def rnA (gs : List Stamp) : AV → AV
  | .sl (some (g, eo)) nb sz l => .sl (some ((3, gs.idxOf g), eo)) nb sz l
  | .agg cs => .agg (rnL gs cs)
  | .tup cs => .tup (rnL gs cs)
  | .fn f cs => .fn f (rnL gs cs)
  | v => v
def rnL (gs : List Stamp) : List AV → List AV
  | [] => []
  | c :: cs => rnA gs c :: rnL gs cs
end

mutual
theorem Rep.rn {w : World} {C C2 : Ctx} {gs : List Stamp} (hsh : C2.Sh = C.Sh) : ∀ (a : AV) (v : Value), closed a = true → (∀ g ∈ stA a, C2.own (3, gs.idxOf g) = C.own g) → Rep w C a v → Rep w C2 (rnA gs a) v
  | .undef, _, _, _, _ => trivial
  | .int .., _, _, _, h => h
  | .bool .., _, _, _, h => h
  | .str .., _, _, _, h => h
  | .sl none nb sz l, v, _, _, h => by
    simp only [rnA, Rep] at h ⊢
    rw [hsh]; exact h
  | .sl (some (g, eo)) nb sz l, v, _, hp, h => by
    have ho := hp g (by simp [stA])
    rcases h with h | h | ⟨h0, b, base, off, cap, vs, h1, h1', h2, h3, h4, h5, h6⟩
    · exact .inl (ho.trans h)
    · exact .inr (.inl h)
    · exact .inr (.inr ⟨h0, b, base, off, cap, vs, ho.trans h1, h1', h2, h3, h4, by rw [hsh]; exact h5, h6⟩)
  | .ptr .., _, hk, _, _ => by simp [closed] at hk
  | .nilp, _, _, _, h => h
  | .eptr .., _, hk, _, _ => by simp [closed] at hk
  | .agg cs, v, hk, hp, h => by
    obtain ⟨vs, h1, h2⟩ := h
    exact ⟨vs, h1, RepS.rn hsh cs vs hk hp h2⟩
  | .tup cs, v, hk, hp, h => by
    obtain ⟨vs, h1, h2⟩ := h
    exact ⟨vs, h1, RepSU.rn hsh cs vs hk hp h2⟩
  | .fn f cs, v, hk, hp, h => by
    obtain ⟨vs, h1, h2⟩ := h
    exact ⟨vs, h1, RepS.rn hsh cs vs hk hp h2⟩
  | .nilf, _, _, _, h => h
  | .bsl .., _, hk, _, _ => by simp [closed] at hk
theorem RepS.rn {w : World} {C C2 : Ctx} {gs : List Stamp} (hsh : C2.Sh = C.Sh) : ∀ (l : List AV) (vs : List Value), closedL l = true → (∀ g ∈ stAL l, C2.own (3, gs.idxOf g) = C.own g) → RepS w C l vs → RepS w C2 (rnL gs l) vs
  | [], _, _, _, h => h
  | c :: cs, _, hk, hp, h => by
    obtain ⟨v, r, h1, h0, h2, h3⟩ := h
    simp only [closedL, Bool.and_eq_true] at hk
    exact ⟨v, r, h1, h0, Rep.rn hsh c v hk.1 (fun p hp' => hp p (by simp [stAL, hp'])) h2, RepS.rn hsh cs r hk.2 (fun p hp' => hp p (by simp [stAL, hp'])) h3⟩
theorem RepSU.rn {w : World} {C C2 : Ctx} {gs : List Stamp} (hsh : C2.Sh = C.Sh) : ∀ (l : List AV) (vs : List Value), closedL l = true → (∀ g ∈ stAL l, C2.own (3, gs.idxOf g) = C.own g) → RepSU w C l vs → RepSU w C2 (rnL gs l) vs
  | [], _, _, _, h => h
  | c :: cs, _, hk, hp, h => by
    obtain ⟨v, r, h1, h2, h3⟩ := h
    simp only [closedL, Bool.and_eq_true] at hk
    exact ⟨v, r, h1, Rep.rn hsh c v hk.1 (fun p hp' => hp p (by simp [stAL, hp'])) h2, RepSU.rn hsh cs r hk.2 (fun p hp' => hp p (by simp [stAL, hp'])) h3⟩
end

/-! ### What a function answers -/

def retOne (P : Program) (st : St) : ResultVar → Option AV
  | .tmp t => some (st.s t)
  | .cell t T =>
    match st.s t with
    | .ptr id off => need ((P.underlying T).isSome = true ∧ (P.info? T).isSome = true) ((st.bx id).bind fun cs => pvPart P T cs off)
    | _ => none

def retList (P : Program) (st : St) : List ResultVar → Option (List AV)
  | [] => some []
  | r :: rs => (retOne P st r).bind fun v => (retList P st rs).bind fun vs => some (v :: vs)

def retAV (P : Program) (st : St) (rs : List ResultVar) : Option AV :=
  (retList P st rs).bind fun
    | [v] => some v
    | vs => some (.tup vs)

def retOk (st : St) (v : AV) : Prop := closed v = true ∧ (stA v).Nodup ∧ ∀ g ∈ stA v, st.cons g = false ∧ st.frz g = false

def retS (P : Program) (rs : List ResultVar) (r : AV) : Exit → St → Prop
  | .ret, st => ∃ v, retAV P st rs = some v ∧ retOk st v ∧ rnA (stA v) v = r
  | .normal, st => ∃ v, retAV P st rs = some v ∧ retOk st v ∧ rnA (stA v) v = r
  | _, _ => False

theorem retOne_ok {X : Ent} {st : St} {C : Ctx} {a : Act} {w : World} (hc : Conc X st C a w) {x : ResultVar} {v : AV} (h : retOne P st x = some v) :
    ∃ u, ((match x with
      | .tmp t => pure (a.tmps.getD t undef)
      | .cell ad t => do loadVar t (← asAddr (a.tmps.getD ad undef))) : Sem Value).run P w = .ok u w ∧ Rep w C v u := by
  cases x with
  | tmp t =>
    simp only [retOne, Option.some.injEq] at h
    subst h
    exact ⟨_, rfl, hc.slots t⟩
  | cell t T =>
    simp only [retOne] at h
    split at h
    · rename_i id off hs
      obtain ⟨⟨hT, hI⟩, h⟩ := need_some h
      obtain ⟨cs, hcs, h⟩ := Option.bind_eq_some_iff.1 h
      have hp := hc.slots t
      rw [hs] at hp
      obtain ⟨b, hb, hp⟩ := hp
      obtain ⟨b', vs, hb', hcell, hr⟩ := RepS_of_box (hc.boxes _ _ hcs)
      obtain rfl : b = b' := by rw [hb] at hb'; exact Option.some.inj hb'
      obtain ⟨u, hu, hv⟩ := load_part h hT hI hcell hr
      refine ⟨u, ?_, hv⟩
      simp only [Sem.run_bind, hp, asAddr, Sem.run_pure, Result.andThen_ok]
      simpa [Instr.loadAt, Instr.sureAddr] using hu
    · cases h

theorem retList_ok {X : Ent} {st : St} {C : Ctx} {a : Act} {w : World} (hc : Conc X st C a w) : ∀ (rs : List ResultVar) (vs : List AV), retList P st rs = some vs →
    ∃ us : List Value, (rs.mapM (fun x => (match x with
      | .tmp t => pure (a.tmps.getD t undef)
      | .cell ad t => do loadVar t (← asAddr (a.tmps.getD ad undef)) : Sem Value))).run P w = .ok us w ∧ RepSU w C vs us ∧ us.length = vs.length
  | [], vs, h => by cases h; exact ⟨[], rfl, rfl, rfl⟩
  | r :: rs, vs, h => by
    simp only [retList] at h
    obtain ⟨v, h1, h⟩ := Option.bind_eq_some_iff.1 h
    obtain ⟨vs', h2, h⟩ := Option.bind_eq_some_iff.1 h
    cases h
    obtain ⟨u, hu, hv⟩ := retOne_ok hc h1
    obtain ⟨us, hus, hr, hl⟩ := retList_ok hc rs vs' h2
    refine ⟨u :: us, ?_, ⟨u, us, rfl, hv, hr⟩, by simp [hl]⟩
    rw [List.mapM_cons]
    simp only [Sem.run_bind, hu, Result.andThen_ok, hus, Sem.run_pure]

theorem retAV_ok {X : Ent} {st : St} {C : Ctx} {a : Act} {w : World} (hc : Conc X st C a w) {fn : Func} {v : AV} (h : retAV P st fn.results.toList = some v) :
    ∃ u, (results fn a.tmps).run P w = .ok u w ∧ Rep w C v u := by
  unfold retAV at h
  obtain ⟨vs, h1, h2⟩ := Option.bind_eq_some_iff.1 h
  obtain ⟨us, hus, hr, hl⟩ := retList_ok hc _ _ h1
  have hrun : (fn.results.mapM (fun x => (match x with
      | .tmp t => pure (a.tmps.getD t undef)
      | .cell ad t => do loadVar t (← asAddr (a.tmps.getD ad undef)) : Sem Value))).run P w = .ok us.toArray w := by
    rw [Array.mapM_eq_mapM_toList, Sem.run_map, hus]
    rfl
  refine ⟨if h : us.toArray.size = 1 then us.toArray[0] else .tuple us.toArray, ?_, ?_⟩
  · unfold results
    rw [Sem.run_bind]
    refine (congrArg (fun r => Result.andThen r _) (hrun : _)).trans ?_
    rfl
  · split at h2
    · cases h2
      obtain ⟨u, r, rfl, hv, hr'⟩ := hr
      simp only [RepSU] at hr'; subst hr'
      simpa using hv
    · rename_i hne
      cases h2
      have : us.toArray.size ≠ 1 := by
        intro e
        simp only [List.size_toArray] at e
        rw [hl] at e
        match vs, e with
        | [x], _ => exact hne x rfl
      rw [dif_neg this]
      exact ⟨us, rfl, hr⟩

def entry (args : List AV) : St :=
  { s := fun t => (args[t]?).getD .undef, bx := fun _ => none, cons := fun _ => false, frz := fun _ => false, made := fun _ => false, res := fun _ => none }

/-- A function's contract, out of its code. -/
theorem CallsP.intro {f : FuncId} {fn : Func} {c : Code} {args : List AV} {r : AV} (hf : P.funcs[f]? = some fn) (hb : fn.body = some c) (hn : args.length ≤ fn.ntmps)
    (h : ∀ X : Ent, X.n = fn.ntmps → AWP P X c (retS P fn.results.toList r) (entry args)) : CallsP P f args r := by
  intro w Sh vals ht hsh hargs
  refine calls_of_wp hf hb ?_
  have hsz : vals.length = args.length := hargs.1.symm
  let X := Ent.of w Sh fn.ntmps ht hsh
  let C : Ctx := ⟨Sh, fun _ => .none, fun _ => none⟩
  have hc : Conc X (entry args) C { tmps := vals.toArray ++ Array.replicate (fn.ntmps - vals.toArray.size) undef, defers := [] } w := by
    refine { n := ?_, slots := ?_, defers := rfl, boxes := fun id cs hh => (by cases hh), boxSome := fun id b hh => (by cases hh), mem := ?_, cons := fun g => ⟨fun hh => (by cases hh), fun hh => (by cases hh)⟩,
             made := fun d hh => absurd rfl hh, tg := fun d hh => (by intro x; cases x), tgInj := fun d d' hh _ _ x => (by cases x), tgMade := fun d x => by cases x }
    · simp [X, Ent.of]; omega
    · intro t
      simp only [entry]
      cases ht : args[t]? with
      | none => trivial
      | some v =>
        simp only [Option.getD_some]
        have hlt := (List.getElem?_eq_some_iff.1 ht).1
        have hvl : t < vals.length := by omega
        have hv : vals[t]? = some vals[t] := List.getElem?_eq_getElem hvl
        have := hargs.2 t v _ ht hv
        have e : (vals.toArray ++ Array.replicate (fn.ntmps - vals.toArray.size) undef).getD t undef = vals[t] := by
          rw [Array.getD_eq_getD_getElem?, Array.getElem?_append_left (by simpa using hvl)]
          simp [hvl]
        rw [e]
        exact Rep.of_shared (C := C) v _ this
    · exact { shIn := hsh, shFrom := fun b hb => .inl hb, shOld := fun b hb => hb, ownIn := fun g b base hh => (by cases hh), ownOne := fun g g' b _ _ hh => (by cases hh),
              ownBox := fun g b base id hh => (by cases hh), ownSh := fun g b base hh => (by cases hh), ownFrz := fun g b base hh => (by cases hh), ownMine := fun g b base hh => (by cases hh),
              boxIn := fun id b hh => (by cases hh), boxOne := fun id id' b hh => (by cases hh), boxSh := fun id b hh => (by cases hh), boxMine := fun id b hh => (by cases hh),
              kept := fun b _ _ => rfl, size := Nat.le_refl _, os := rfl, tape := rfl, output := rfl }
  refine wp_mono (h X rfl C _ w hc) ?_
  have fin : ∀ (a' : Act) (w' : World) (st' : St) (C' : Ctx), (∃ v, retAV P st' fn.results.toList = some v ∧ retOk st' v ∧ rnA (stA v) v = r) → Conc X st' C' a' w' →
      a'.defers = [] ∧ ∃ v, (results fn a'.tmps).run P w' = .ok v w' ∧ ∃ v2 C2, Ending.returned v = .returned v2 ∧ Rep w' C2 r v2 ∧ MemOk (Ent.of w Sh 0 ht hsh) (fun _ => false) C2 w' ∧ (∀ id, C2.box id = none) ∧ (∀ g, C2.own g ≠ .dead) := by
    rintro a' w' st' C' ⟨rv, h1, ⟨h2, h3, h4⟩, rfl⟩ hc'
    obtain ⟨u, hu, hr⟩ := retAV_ok hc' h1
    refine ⟨hc'.defers, u, hu, u, ⟨C'.Sh, fun g => if g.1 = 3 then (match (stA rv)[g.2]? with | some g => C'.own g | none => .none) else .none, fun _ => none⟩, rfl, ?_, ?_, fun _ => rfl, ?_⟩
    · refine Rep.rn (C := C') (gs := stA rv) (by rfl) rv u h2 (fun g hg => ?_) hr
      have hi := List.idxOf_lt_length_of_mem hg
      simp only [if_true]
      rw [List.getElem?_eq_getElem hi, List.getElem_idxOf]
    · have m := hc'.mem
      have lk : ∀ (g : Stamp) b base, (if g.1 = 3 then (match (stA rv)[g.2]? with | some g => C'.own g | none => Own.none) else .none) = .live b base →
          ∃ g0, g.1 = 3 ∧ (stA rv)[g.2]? = some g0 ∧ C'.own g0 = .live b base ∧ st'.frz g0 = false := by
        intro g b base hg
        split at hg
        · rename_i e
          split at hg
          · rename_i g0 e0
            exact ⟨g0, e, e0, hg, (h4 g0 (List.mem_of_getElem? e0)).2⟩
          · cases hg
        · cases hg
      exact { shIn := m.shIn, shFrom := m.shFrom, shOld := m.shOld,
              ownIn := fun g b base hg => by obtain ⟨g0, _, _, hg0, _⟩ := lk g b base hg; exact m.ownIn g0 b base hg0,
              ownOne := fun g g' b base base' hg hg' _ => by
                obtain ⟨g0, e, e0, hg0, hf⟩ := lk g b base hg
                obtain ⟨g0', e', e0', hg0', hf'⟩ := lk g' b base' hg'
                have := m.ownOne g0 g0' b base base' hg0 hg0' hf
                subst this
                have hi := (List.getElem?_eq_some_iff.1 e0).1
                have := (List.getElem?_inj hi h3).1 (e0.trans e0'.symm)
                obtain ⟨x, y⟩ := g; obtain ⟨x', y'⟩ := g'
                simp only at e e' this
                rw [e, e', this],
              ownBox := fun g b base id hg _ hb => (by cases hb),
              ownSh := fun g b base hg _ hs => by obtain ⟨g0, _, _, hg0, hf⟩ := lk g b base hg; exact m.ownSh g0 b base hg0 hf hs,
              ownFrz := fun g b base hg hf => (by cases hf),
              ownMine := fun g b base hg _ => by obtain ⟨g0, _, _, hg0, hf⟩ := lk g b base hg; exact m.ownMine g0 b base hg0 hf,
              boxIn := fun id b hb => (by cases hb), boxOne := fun id id' b hb => (by cases hb), boxSh := fun id b hb => (by cases hb), boxMine := fun id b hb => (by cases hb),
              kept := m.kept, size := m.size, os := m.os, tape := m.tape, output := m.output }
    · intro g hg
      simp only at hg
      split at hg
      · split at hg
        · rename_i g0 e0
          have := (hc'.cons g0).2 hg
          rw [(h4 g0 (List.mem_of_getElem? e0)).1] at this; cases this
        · cases hg
      · cases hg
  rintro e a' w' ⟨st', C', h1, h2⟩
  cases e with
  | normal => exact fin a' w' st' C' h1 h2
  | ret => exact fin a' w' st' C' h1 h2
  | _ => exact h1.elim
end Go.VS
