/- Part of a framework that states what Go functions answer on values as data; it holds for every program of the model. -/
import Derived.Test.YtedjcbdhafmjiaaVsOps4
import Derived.Laws.Tables
namespace Go.VS
set_option linter.unusedVariables false
set_option linter.unusedSimpArgs false
set_option linter.unusedSectionVars false
open Go
variable {P : Program}

/-! ### Building -/

def putAt {α : Type} (cs : List α) (off : Nat) (vs : List α) : List α := cs.take off ++ vs ++ cs.drop (off + vs.length)

theorem putAt_length {α : Type} {cs vs : List α} {off : Nat} (h : off + vs.length ≤ cs.length) : (putAt cs off vs).length = cs.length := by
  simp [putAt]; omega

theorem putAt_get {α : Type} {cs vs : List α} {off : Nat} (h : off + vs.length ≤ cs.length) (i : Nat) :
    (putAt cs off vs)[i]? = if off ≤ i ∧ i < off + vs.length then vs[i - off]? else cs[i]? := by
  unfold putAt
  by_cases h1 : i < off
  · rw [if_neg (by omega), List.append_assoc, List.getElem?_append_left (by simp; omega), List.getElem?_take]
    simp [h1]
  · by_cases h2 : i < off + vs.length
    · rw [if_pos (by omega), List.append_assoc, List.getElem?_append_right (by simp; omega), List.getElem?_append_left (by simp; omega)]
      congr 1; simp; omega
    · rw [if_neg (by omega), List.append_assoc, List.getElem?_append_right (by simp; omega), List.getElem?_append_right (by simp; omega), List.getElem?_drop]
      congr 1; simp; omega

theorem fold_put : ∀ (vs : List Value) (k off : Nat) (cs : Array Value), off + k + vs.length ≤ cs.size →
    ((vs.zipIdx k).foldl (fun (a : Array Value) (c : Value × Nat) => a.setIfInBounds (off + c.2) c.1) cs).toList = putAt cs.toList (off + k) vs
  | [], k, off, cs, h => by simp [putAt]
  | v :: vs, k, off, cs, h => by
    simp only [List.length_cons] at h
    rw [List.zipIdx_cons, List.foldl_cons, fold_put vs (k + 1) off _ (by simp; omega)]
    apply List.ext_getElem?
    intro i
    rw [putAt_get (by simp; omega), putAt_get (by simp; omega)]
    simp only [Array.toList_setIfInBounds, List.getElem?_set, List.length_cons, Array.length_toList]
    by_cases h1 : i = off + k
    · subst h1
      rw [if_neg (by omega), if_pos rfl, if_pos (by omega), if_pos (by omega)]
      simp
    · by_cases h2 : off + (k + 1) ≤ i ∧ i < off + (k + 1) + vs.length
      · rw [if_pos h2, if_pos (by omega)]
        rw [show i - (off + k) = (i - (off + (k + 1))) + 1 by omega, List.getElem?_cons_succ]
      · rw [if_neg h2, if_neg (fun e => h1 e.symm), if_neg (by omega)]

theorem RepS.putAt {w : World} {C : Ctx} {cs l : List AV} {vs us : List Value} (h : RepS w C cs vs) (h' : RepS w C l us) (off : Nat) :
    RepS w C (putAt cs off l) (putAt vs off us) := by
  unfold VS.putAt
  rw [h'.length]
  exact ((h.take off).append h').append (h.drop _)

/-- A value whose cells are known. -/
def St.solid (st : St) : AV → Bool
  | .undef => false
  | .tup _ => false
  | .sl o _ _ _ => st.alive o
  | .eptr o _ _ _ _ => st.alive o
  | _ => true

theorem rep_solid {st : St} {w : World} {C : Ctx} (hcons : ∀ g, st.cons g = true ↔ C.own g = .dead) {v : AV} (hs : st.solid v = true) {u : Value} (h : Rep w C v u) :
    RepS w C v.cells u.cells.toList := by
  cases v with
  | agg cs =>
    obtain ⟨vs, rfl, h2⟩ := h
    simpa [Value.cells, AV.cells] using h2
  | undef => cases hs
  | tup => cases hs
  | int k n => simp only [Rep] at h; subst h; exact ⟨_, [], rfl, rfl, rfl, rfl⟩
  | bool b => simp only [Rep] at h; subst h; exact ⟨_, [], rfl, rfl, rfl, rfl⟩
  | str l => simp only [Rep] at h; subst h; exact ⟨_, [], rfl, rfl, rfl, rfl⟩
  | nilp => simp only [Rep] at h; subst h; exact ⟨_, [], rfl, rfl, rfl, rfl⟩
  | nilf => simp only [Rep] at h; subst h; exact ⟨_, [], rfl, rfl, rfl, rfl⟩
  | ptr id off =>
    have h' := h
    obtain ⟨b, _, rfl⟩ := h
    exact ⟨_, [], rfl, rfl, h', rfl⟩
  | bsl id off len cap =>
    have h' := h
    obtain ⟨b, _, rfl, _⟩ := h
    exact ⟨_, [], rfl, rfl, h', rfl⟩
  | fn f cap =>
    have h' := h
    obtain ⟨vs, rfl, _⟩ := h
    exact ⟨_, [], rfl, rfl, h', rfl⟩
  | sl o nb sz l =>
    have h' := h
    rcases rep_sl_read hcons h hs with ⟨_, _, rfl⟩ | ⟨_, _, _, _, _, _, rfl, _⟩
    · exact ⟨_, [], rfl, rfl, h', rfl⟩
    · exact ⟨_, [], rfl, rfl, h', rfl⟩
  | eptr o sz l i off =>
    have h' := h
    obtain ⟨_, _, _, rfl, _⟩ := rep_eptr_read hcons h hs
    exact ⟨_, [], rfl, rfl, h', rfl⟩

def cellTys (P : Program) : Nat → TypeId → List TypeId
  | 0, T => [T]
  | n + 1, T =>
    match P.underlying T with
    | some (.struct fs) => fs.toList.flatMap fun f => cellTys P n f.type
    | some (.array k E) => (List.replicate k (cellTys P n E)).flatten
    | _ => [T]

/-- The cells of a type's zero value. -/
def zeroAV (P : Program) (T : TypeId) : Option (List AV) :=
  match P.info? T with
  | some i =>
    match i.zero with
    | some z => need ((cellTys P 12 T).length = z.cells.size ∧ z.cells.all (·.oneCell') = true) (some (List.zipWith (constAV P) (cellTys P 12 T) z.cells.toList))
    | none => none
  | none => none

theorem rep_zip (w : World) (C : Ctx) : ∀ (ts : List TypeId) (vs : List Value), ts.length = vs.length → (∀ v ∈ vs, v.oneCell' = true) → RepS w C (List.zipWith (constAV P) ts vs) vs
  | [], [], _, _ => rfl
  | t :: ts, v :: vs, h, h1 => ⟨v, vs, rfl, h1 v (by simp), rep_const w C P t v, rep_zip w C ts vs (by simpa using h) (fun u hu => h1 u (by simp [hu]))⟩
  | [], _ :: _, h, _ => by simp at h
  | _ :: _, [], h, _ => by simp at h

theorem zeroAV_ok {T : TypeId} {cs : List AV} (h : zeroAV P T = some cs) : ∃ z, (∀ w, (zeroValue T).run P w = .ok z w) ∧ (∀ w C, RepS w C cs z.cells.toList) ∧ (P.info? T).isSome = true := by
  unfold zeroAV at h
  split at h
  · rename_i i hi
    split at h
    · rename_i z hz
      obtain ⟨⟨hl, h1⟩, h'⟩ := need_some h
      cases h'
      refine ⟨z, fun w => by simp [zeroValue, typeInfo, hi, hz], fun w C => rep_zip w C _ _ (by simpa using hl) (fun v hv => ?_), by simp [hi]⟩
      exact Array.all_eq_true_iff_forall_mem.1 h1 v (by simpa using hv)
    · cases h
  · cases h

def placeOf (P : Program) (T : TypeId) (i : Nat) : Option (Nat × Nat) :=
  match P.underlying T with
  | some (.struct fs) => (fs[i]?).map fun f => (f.offset, P.cellsOf f.type)
  | some (.array _ E) => some (i * P.cellsOf E, P.cellsOf E)
  | _ => none

def fillAV (P : Program) (st : St) (T : TypeId) (cs : List AV) : List (Nat × AV) → Option (List AV)
  | [] => some cs
  | (i, v) :: r =>
    (placeOf P T i).bind fun p => need (st.solid v = true ∧ v.cells.length = p.2 ∧ p.1 + p.2 ≤ cs.length) (fillAV P st T (putAt cs p.1 v.cells) r)

inductive RepP (w : World) (C : Ctx) : List (Nat × AV) → List (Nat × Value) → Prop
  | nil : RepP w C [] []
  | cons {i : Nat} {v : AV} {u : Value} {r : List (Nat × AV)} {s : List (Nat × Value)} (h : Rep w C v u) (t : RepP w C r s) : RepP w C ((i, v) :: r) ((i, u) :: s)

theorem fill_ok {st : St} {T : TypeId} {w : World} {C : Ctx} (hcons : ∀ g, st.cons g = true ↔ C.own g = .dead) (place : Nat → Option (Nat × Nat)) (hp : ∀ i p, placeOf P T i = some p → place i = some p) :
    ∀ (ps : List (Nat × AV)) (us : List (Nat × Value)) (cs out : List AV) (vs : List Value), RepP w C ps us → RepS w C cs vs → fillAV P st T cs ps = some out →
      ∃ r, Instr.fill place vs.toArray us = some r ∧ RepS w C out r.toList
  | _, _, cs, out, vs, .nil, hr, h => by cases h; exact ⟨vs.toArray, rfl, hr⟩
  | (i, v) :: r, (_, u) :: s, cs, out, vs, .cons hv t, hr, h => by
    simp only [fillAV] at h
    obtain ⟨p, hpl, h'⟩ := Option.bind_eq_some_iff.1 h
    obtain ⟨⟨h1, h2, h3⟩, h''⟩ := need_some h'
    have hc := rep_solid hcons h1 hv
    have hlen := hc.length
    have hlen' := hr.length
    rw [Array.length_toList] at hlen
    obtain ⟨off, size⟩ := p
    simp only at h2 h3 h''
    have hf := fold_put u.cells.toList 0 off vs.toArray (by simp; omega)
    obtain ⟨q, hq1, hq2⟩ := fill_ok hcons place hp r s _ out _ t (hr.putAt hc off) h''
    refine ⟨q, ?_, hq2⟩
    unfold Instr.fill
    rw [hp i _ hpl]
    have hs : ¬ (u.cells.size ≠ size) := by omega
    have hs2 : ¬ (off + u.cells.size > vs.toArray.size) := by simp; omega
    simp only [hs, hs2, decide_false, Bool.false_or, Bool.or_self, if_false, Bool.false_eq_true]
    rw [← hq1]
    congr 1
    apply Array.ext'
    have e : (u.cells.zipIdx.foldl (fun (cs : Array Value) (x : Value × Nat) => cs.setIfInBounds (off + x.2) x.1) vs.toArray).toList = putAt vs off u.cells.toList := by
      rw [← Array.foldl_toList, Array.toList_zipIdx]
      simpa using hf
    simpa using e

def pvBuild (P : Program) (st : St) (T : TypeId) (parts : List (Nat × AV)) : Option AV :=
  (zeroAV P T).bind fun cs =>
  need ((match P.underlying T with
    | some (.struct fs) => fs.toList.all fun f => (P.info? f.type).isSome
    | some (.array _ E) => (P.info? E).isSome
    | _ => false) = true) ((fillAV P st T cs parts).map .agg)

theorem run_places' : ∀ (fs : List Field), (fs.all fun f => (P.info? f.type).isSome) = true → ∀ (w : World),
    (fs.mapM fun f => do pure (f.offset, ← sizeOf f.type) : Sem (List (Nat × Nat))).run P w = .ok (fs.map fun f => (f.offset, P.cellsOf f.type)) w
  | [], _, w => by simp
  | f :: fs, h, w => by
    simp only [List.all_cons, Bool.and_eq_true] at h
    have ih := run_places' fs h.2 w
    simp [List.mapM_cons, run_sizeOf h.1]
    simp at ih
    simp [ih]

theorem pvBuild_ok {st : St} {T : TypeId} {parts : List (Nat × AV)} {v : AV} (h : pvBuild P st T parts = some v) {w : World} {C : Ctx} (hcons : ∀ g, st.cons g = true ↔ C.own g = .dead)
    {us : Array (Nat × Value)} (hu : RepP w C parts us.toList) : ∃ u, (Instr.build T us).run P w = .ok u w ∧ Rep w C v u := by
  unfold pvBuild at h
  obtain ⟨cs, hz, h⟩ := Option.bind_eq_some_iff.1 h
  obtain ⟨hA, h⟩ := need_some h
  obtain ⟨out, ho, rfl⟩ := Option.map_eq_some_iff.1 h
  obtain ⟨z, hz1, hz2, hI⟩ := zeroAV_ok hz
  split at hA
  · rename_i fs hT
    have hm := run_places' fs.toList hA w
    obtain ⟨r, hr1, hr2⟩ := fill_ok hcons (fun i => (fs.map fun f => (f.offset, P.cellsOf f.type))[i]?) (fun i p hp => by simp only [placeOf, hT] at hp; simpa using hp) parts us.toList cs out _ hu (hz2 w C) ho
    refine ⟨.agg r, ?_, r.toList, by simp, hr2⟩
    have e : (⟨z.cells.toList⟩ : Array Value) = z.cells := rfl
    have hm' : (fs.mapM fun f => do pure (f.offset, ← sizeOf f.type) : Sem (Array (Nat × Nat))).run P w = .ok (fs.map fun f => (f.offset, P.cellsOf f.type)) w := by
      rw [Array.mapM_eq_mapM_toList, Sem.run_map, hm]
      simp only [Result.andThen_ok]
      congr 1
      apply Array.ext'
      simp
    simp only [Instr.build, Sem.run_bind, hz1, Result.andThen_ok, Sem.run_pure, run_underlying hT]
    rw [hm']
    simp only [Result.andThen_ok]
    rw [show z.cells = z.cells.toList.toArray by simp, hr1]
    rfl
  · rename_i n E hT
    obtain ⟨r, hr1, hr2⟩ := fill_ok hcons (fun i => some (i * P.cellsOf E, P.cellsOf E)) (fun i p hp => by simp only [placeOf, hT] at hp; exact hp) parts us.toList cs out _ hu (hz2 w C) ho
    refine ⟨.agg r, ?_, r.toList, by simp, hr2⟩
    simp only [Instr.build, Sem.run_bind, hz1, Result.andThen_ok, Sem.run_pure, run_underlying hT, run_sizeOf hA]
    rw [show z.cells = z.cells.toList.toArray by simp, hr1]
    rfl
  · cases hA
end Go.VS
