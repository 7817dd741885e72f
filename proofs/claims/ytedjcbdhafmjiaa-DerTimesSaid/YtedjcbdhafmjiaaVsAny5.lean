/- Part of a framework that states what Go functions answer on values as data; it holds for every program of the model. -/
import Derived.Test.YtedjcbdhafmjiaaVsAny4
namespace Go.VS
set_option linter.unusedVariables false
set_option linter.unusedSimpArgs false
set_option linter.unusedSectionVars false
open Go
variable {P : Program}

def dirs (o : Oper) : List Nat := (o.after.toList.filter fun e => Region.binds .any e).map (·.on)

/-- Which operations stand ahead of each: a bit for each. -/
def masks (ops : Array Oper) : List Nat :=
  ops.toList.foldl (fun acc o => acc ++ [(dirs o).foldl (fun m d => m ||| (1 <<< d) ||| acc.getD d 0) 0]) []

/-- An order: what does more than give a value stands as early as it may. -/
def autoOrder (P : Program) (ops : Array Oper) : List Nat :=
  let A := masks ops
  let n := ops.size
  let eff := (List.range n).filter fun i => match ops[i]? with | some o => !quiet P o | none => false
  let add (acc : List Nat) (i : Nat) : List Nat := if acc.contains i then acc else acc ++ [i]
  let l := eff.foldl (fun acc e => add (((List.range n).filter fun i => (A.getD e 0).testBit i).foldl add acc) e) []
  (List.range n).foldl add l

def tabOk (ops : Array Oper) (A : List Nat) : Bool :=
  (List.range ops.size).all fun k =>
    match ops[k]? with
    | some o => (List.range ops.size).all fun i => !(A.getD k 0).testBit i || (dirs o).contains i || (dirs o).any fun m => decide (m < k) && (A.getD m 0).testBit i
    | none => false

def pairOk (P : Program) (ops : Array Oper) (A : List Nat) (i j : Nat) : Bool :=
  match ops[i]?, ops[j]? with
  | some oi, some oj => !(dirs oi).contains j && ((A.getD j 0).testBit i || comm P ops oi oj)
  | _, _ => false

def pairsOk (P : Program) (ops : Array Oper) (A : List Nat) : List Nat → Bool
  | [] => true
  | i :: r => r.all (pairOk P ops A i) && pairsOk P ops A r

def orderOk (P : Program) (ops : Array Oper) (A is : List Nat) : Bool :=
  decide (is.length = ops.size) && is.all (fun k => decide (k < ops.size)) && decide is.Nodup && (List.range ops.size).all (fun k => is.contains k) && tabOk ops A && pairsOk P ops A is &&
  (List.range ops.size).all fun k =>
    match ops[k]? with
    | some o => (dirs o).all fun d => decide (d < ops.size) && d != k
    | none => false

def Shut (ops : Array Oper) (listed : Array Bool) : Prop :=
  ∀ k o, ops[k]? = some o → listed.getD k false = true → ∀ d ∈ dirs o, listed.getD d false = true

theorem tab_spec {ops : Array Oper} {A : List Nat} (hA : tabOk ops A = true) {listed : Array Bool} (hs : Shut ops listed) : ∀ (k : Nat) (o : Oper), ops[k]? = some o → (∀ d ∈ dirs o, listed.getD d false = true) →
    ∀ i, i < ops.size → (A.getD k 0).testBit i = true → listed.getD i false = true := by
  intro k
  induction k using Nat.strongRecOn with
  | _ k ih =>
    intro o ho hd i hi hb
    have hk : k < ops.size := (Array.getElem?_eq_some_iff.1 ho).1
    have h := List.all_eq_true.1 hA k (List.mem_range.2 hk)
    rw [ho] at h
    have h := List.all_eq_true.1 h i (List.mem_range.2 hi)
    simp only [Bool.or_eq_true, Bool.not_eq_true', hb, Bool.true_eq_false, false_or, List.contains_iff_mem, List.any_eq_true, Bool.and_eq_true, decide_eq_true_eq] at h
    rcases h with h | ⟨m, hm, hlt, hmb⟩
    · exact hd i h
    · have hl := hd m hm
      have hms : m < ops.size := by omega
      exact ih m hlt ops[m] (Array.getElem?_eq_getElem hms) (fun d hd' => hs m ops[m] (Array.getElem?_eq_getElem hms) hl d hd') i hi hmb

theorem mem_dirs {o : Oper} {d : Nat} : d ∈ dirs o ↔ ∃ e ∈ o.after, Region.binds .any e = true ∧ e.on = d := by
  unfold dirs
  simp only [List.mem_map, List.mem_filter, Array.mem_toList_iff]
  constructor
  · rintro ⟨e, ⟨h1, h2⟩, h3⟩; exact ⟨e, h1, h2, h3⟩
  · rintro ⟨e, h1, h2, h3⟩; exact ⟨e, ⟨h1, h2⟩, h3⟩

def VAny (P : Program) (n : Nat) (ops : Array Oper) (K : St → Prop) : Nat → Array Bool → St → Prop
  | 0, listed, st => Region.ready .any ops listed = [] ∧ K st
  | f + 1, listed, st => (Region.ready .any ops listed = [] → K st) ∧
      ∀ i ∈ Region.ready .any ops listed, ∃ o, ops[i]? = some o ∧ vguard n ops st o (vop P n st o) (VAny P n ops K f (listed.setIfInBounds i true))

theorem VAny_sound {X : Ent} {ops : Array Oper} {K : St → Prop} {Q : Exit → Act → World → Prop} (hK : ∀ st' C' a' w', K st' → Conc X st' C' a' w' → Q .normal a' w') :
    ∀ (f : Nat) (listed : Array Bool) (st : St), VAny P X.n ops K f listed st → ∀ (C : Ctx) (a : Act) (w : World), Conc X st C a w → wpAny P .any ops Q f listed a w
  | 0, _, st, h, C, a, w, hc => ⟨h.1, hK st C a w h.2 hc⟩
  | f + 1, listed, st, h, C, a, w, hc => by
    refine ⟨fun h0 => hK st C a w (h.1 h0) hc, fun i hi => ?_⟩
    obtain ⟨o, ho, hv⟩ := h.2 i hi
    exact vguard_sound ho hv hc fun st' C' a' w' h' hc' => VAny_sound hK f _ st' h' C' a' w' hc'

theorem bubble {n : Nat} {ops : Array Oper} {K : St → Prop} {j : Nat} {oj : Oper} (hj : ops[j]? = some oj) {post : List Nat} : ∀ (pre : List Nat) (st : St),
    (∀ i ∈ pre, ∀ oi, ops[i]? = some oi → comm P ops oi oj = true) → vidx P n ops (pre ++ j :: post) st K →
    vguard n ops st oj (vop P n st oj) fun s => vidx P n ops (pre ++ post) s K
  | [], st, _, h => by simpa [vidx, hj] using h
  | i :: pre, st, hc, h => by
    simp only [List.cons_append, vidx] at h
    split at h
    · rename_i oi hi
      have h2 := vguard_mono (K' := fun s => vguard n ops s oj (vop P n s oj) fun s => vidx P n ops (pre ++ post) s K)
        (fun s hs => bubble hj pre s (fun k hk => hc k (by simp [hk])) hs) h
      have h3 := swap (hc i (by simp) oi hi) h2
      refine vguard_mono (fun s hs => ?_) h3
      simp only [List.cons_append, vidx, hi]
      exact hs
    · exact h.elim

theorem pairsOk_app {ops : Array Oper} {A : List Nat} : ∀ (pre : List Nat) {j : Nat} {post : List Nat}, pairsOk P ops A (pre ++ j :: post) = true →
    (∀ i ∈ pre, pairOk P ops A i j = true) ∧ pairsOk P ops A (pre ++ post) = true
  | [], j, post, h => by
    simp only [List.nil_append, pairsOk, Bool.and_eq_true] at h
    exact ⟨by simp, h.2⟩
  | i :: pre, j, post, h => by
    simp only [List.cons_append, pairsOk, Bool.and_eq_true] at h
    obtain ⟨h1, h2⟩ := h
    obtain ⟨h3, h4⟩ := pairsOk_app pre h2
    have h5 := List.all_eq_true.1 h1
    refine ⟨?_, ?_⟩
    · intro k hk
      rcases List.mem_cons.1 hk with rfl | hk
      · exact h5 j (by simp)
      · exact h3 k hk
    · simp only [List.cons_append, pairsOk, Bool.and_eq_true]
      refine ⟨List.all_eq_true.2 fun k hk => h5 k ?_, h4⟩
      rcases List.mem_append.1 hk with hk | hk <;> simp [hk]

theorem getD_set {listed : Array Bool} {i j : Nat} (h : i < listed.size) (b : Bool) : (listed.setIfInBounds i true).getD j b = if j = i then true else listed.getD j b := by
  simp only [Array.getD_eq_getD_getElem?, Array.getElem?_setIfInBounds]
  by_cases e : i = j
  · subst e; simp [h]
  · simp [e, Ne.symm e]

theorem any_of_order {n : Nat} {ops : Array Oper} {A : List Nat} {K : St → Prop} (hA : tabOk ops A = true) (hd : ∀ k o, ops[k]? = some o → ∀ d ∈ dirs o, d < ops.size ∧ d ≠ k) :
    ∀ (f : Nat) (is : List Nat) (listed : Array Bool) (st : St), is.length = f → listed.size = ops.size → is.Nodup → (∀ k, k < ops.size → (k ∈ is ↔ listed.getD k false = false)) → (∀ k ∈ is, k < ops.size) →
      pairsOk P ops A is = true → Shut ops listed → vidx P n ops is st K → VAny P n ops K f listed st := by
  intro f
  induction f with
  | zero =>
    intro is listed st hl hsz hnd hmem hlt hp hs h
    have : is = [] := List.length_eq_zero_iff.1 hl
    subst this
    refine ⟨?_, h⟩
    cases hr : Region.ready .any ops listed with
    | nil => rfl
    | cons j r =>
      exfalso
      have hj : j ∈ Region.ready .any ops listed := by rw [hr]; simp
      obtain ⟨h1, o, ho, _⟩ := mem_ready.1 hj
      have hk : j < ops.size := (Array.getElem?_eq_some_iff.1 ho).1
      have := (hmem j hk).2 (by rw [Array.getD_eq_getD_getElem?] at h1 ⊢; rw [Array.getElem?_eq_getElem (by omega)] at h1 ⊢; exact h1)
      cases this
  | succ f ih =>
    intro is listed st hl hsz hnd hmem hlt hp hs h
    refine ⟨fun hr => ?_, fun j hj => ?_⟩
    · exfalso
      match is, hl with
      | i :: rest, _ =>
        have hi : i < ops.size := hlt i (by simp)
        have hio : ops[i]? = some ops[i] := Array.getElem?_eq_getElem hi
        have : i ∈ Region.ready .any ops listed := by
          refine mem_ready.2 ⟨?_, ops[i], hio, fun e he hb => ?_⟩
          · have := (hmem i hi).1 (by simp)
            rw [Array.getD_eq_getD_getElem?] at this ⊢; rw [Array.getElem?_eq_getElem (by omega)] at this ⊢; exact this
          · have hde : e.on ∈ dirs ops[i] := mem_dirs.2 ⟨e, he, hb, rfl⟩
            obtain ⟨h1, h2⟩ := hd i _ hio _ hde
            cases hle : listed.getD e.on false with
            | true => rfl
            | false =>
              exfalso
              have hin := (hmem e.on h1).2 hle
              rcases List.mem_cons.1 hin with hin | hin
              · exact h2 hin
              · simp only [pairsOk, Bool.and_eq_true] at hp
                have := List.all_eq_true.1 hp.1 _ hin
                unfold pairOk at this
                rw [hio, Array.getElem?_eq_getElem h1] at this
                simp [hde] at this
        rw [hr] at this; cases this
    · obtain ⟨h1, oj, ho, hpre⟩ := mem_ready.1 hj
      have hk : j < ops.size := (Array.getElem?_eq_some_iff.1 ho).1
      have hjin : j ∈ is := (hmem j hk).2 (by rw [Array.getD_eq_getD_getElem?] at h1 ⊢; rw [Array.getElem?_eq_getElem (by omega)] at h1 ⊢; exact h1)
      have hdj : ∀ d ∈ dirs oj, listed.getD d false = true := by
        intro d hd'
        obtain ⟨e, h2, h3, rfl⟩ := mem_dirs.1 hd'
        exact hpre e h2 h3
      obtain ⟨pre, post, rfl⟩ := List.append_of_mem hjin
      obtain ⟨hp1, hp2⟩ := pairsOk_app pre hp
      refine ⟨oj, ho, ?_⟩
      have hb := bubble ho pre st (fun i hi oi hoi => by
        have := hp1 i hi
        unfold pairOk at this
        rw [hoi, ho] at this
        simp only [Bool.and_eq_true, Bool.or_eq_true] at this
        rcases this.2 with h2 | h2
        · exfalso
          have hilt := hlt i (by simp [hi])
          have := tab_spec hA hs j oj ho hdj i hilt h2
          rw [(hmem i hilt).1 (by simp [hi])] at this; cases this
        · exact h2) h
      refine vguard_mono (fun s hsK => ?_) hb
      have hjs : j < listed.size := by omega
      have hnd' : (pre ++ post).Nodup ∧ j ∉ pre ++ post := by
        rw [List.nodup_append] at hnd
        obtain ⟨n1, n2, n3⟩ := hnd
        rw [List.nodup_cons] at n2
        refine ⟨List.nodup_append.2 ⟨n1, n2.2, fun a ha b hb => n3 a ha b (by simp [hb])⟩, ?_⟩
        intro hin
        rcases List.mem_append.1 hin with hin | hin
        · exact n3 j hin j (by simp) rfl
        · exact n2.1 hin
      refine ih (pre ++ post) _ s (by simp at hl ⊢; omega) (by simpa using hsz) hnd'.1 (fun k hk' => ?_) (fun k hk' => hlt k ?_) hp2 ?_ hsK
      · rw [getD_set hjs]
        have := hmem k hk'
        by_cases e : k = j
        · subst e
          simp only [if_true]
          constructor
          · intro x; exact absurd x hnd'.2
          · intro x; cases x
        · rw [if_neg e, ← this]
          simp [e]
      · rcases List.mem_append.1 hk' with hk' | hk' <;> simp [hk']
      · intro k o hko hlk d hdd
        rw [getD_set hjs] at hlk ⊢
        split
        · rfl
        · split at hlk
          · rename_i e
            subst e
            rw [ho] at hko; cases hko
            exact hdj d hdd
          · exact hs k o hko hlk d hdd

/-- A region that draws its order: one order stands for all. -/
theorem AWP.regionAny {X : Ent} {ks : List Nat} {id : Nat} {ops : Array Oper} {Q : Exit → St → Prop} {st : St} (A is : List Nat) (hm : P.follows .mixedOrders = true) (ho : orderOk P ops A is = true)
    (h : vidx P X.n ops is st fun s => Q .normal (norm ks s)) : AWP P X (.region id ops true) Q st := by
  simp only [orderOk, Bool.and_eq_true, decide_eq_true_eq] at ho
  obtain ⟨⟨⟨⟨⟨⟨h1, h2⟩, h3⟩, h7⟩, h4⟩, h5⟩, h6⟩ := ho
  have hlt : ∀ k ∈ is, k < ops.size := fun k hk => by simpa using List.all_eq_true.1 h2 k hk
  intro C a w hc
  refine wp_region_any hm ?_
  have hc' : Conc X st C a { w with drawn := w.drawn + 1 } := hc.same rfl rfl rfl rfl
  refine VAny_sound (K := fun s => Q .normal (norm ks s)) (fun st' C' a' w' hq hc'' => ?_) _ _ st ?_ C a _ hc'
  · obtain ⟨C2, h2⟩ := hc''.norm ks
    exact ⟨_, C2, hq, h2⟩
  · refine any_of_order h4 (fun k o hko d hd => ?_) _ is _ st h1 (by simp) h3 (fun k hk => ?_) hlt h5 (fun k o hko hl => ?_) h
    · have hk : k < ops.size := (Array.getElem?_eq_some_iff.1 hko).1
      have := List.all_eq_true.1 h6 k (List.mem_range.2 hk)
      rw [hko] at this
      have := List.all_eq_true.1 this d hd
      simpa using this
    · have hall : ∀ k, k < ops.size → k ∈ is := by
        intro k hk
        simpa using List.all_eq_true.1 h7 k (List.mem_range.2 hk)
      simp [hall k hk, Array.getD_eq_getD_getElem?, hk]
    · have hk : k < ops.size := (Array.getElem?_eq_some_iff.1 hko).1
      simp [Array.getD_eq_getD_getElem?, hk] at hl
end Go.VS
