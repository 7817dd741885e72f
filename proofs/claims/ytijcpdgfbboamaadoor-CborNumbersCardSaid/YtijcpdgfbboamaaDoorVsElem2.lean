/- Part of a framework that states what Go functions answer on values as data; it holds for every program of the model. -/
import Derived.Test.YtijcpdgfbboamaaDoorVsCode
namespace Go.VS
set_option linter.unusedVariables false
set_option linter.unusedSimpArgs false
set_option linter.unusedSectionVars false
open Go
variable {P : Program}

/-! ### An element of a slice that one owns is written -/

def setAt (sz k : Nat) (e : AV) (eo : Nat) (l : List AV) : List AV := if eo ≤ k then l.set (k - eo) e else l

mutual
def setA (g : Stamp) (sz k : Nat) (e : AV) : AV → AV
  | .sl (some (h, eo)) nb sz' l => if h = g then (if sz' = sz then .sl (some (h, eo)) nb sz' (setAt sz k e eo l) else .undef) else .sl (some (h, eo)) nb sz' l
  | .eptr (some (h, eo)) sz' l i off => if h = g then (if sz' = sz then .eptr (some (h, eo)) sz' (setAt sz k e eo l) i off else .undef) else .eptr (some (h, eo)) sz' l i off
  | .agg cs => .agg (setL g sz k e cs)
  | .tup cs => .tup (setL g sz k e cs)
  | .fn f cs => .fn f (setL g sz k e cs)
  | v => v
def setL (g : Stamp) (sz k : Nat) (e : AV) : List AV → List AV
  | [] => []
  | c :: cs => setA g sz k e c :: setL g sz k e cs
end

theorem setAt_length (sz k : Nat) (e : AV) (eo : Nat) (l : List AV) : (setAt sz k e eo l).length = l.length := by
  unfold setAt
  split <;> simp

def St.setE (st : St) (g : Stamp) (sz k : Nat) (e : AV) : St :=
  { st with s := fun t => setA g sz k e (st.s t), bx := fun id => (st.bx id).map (setL g sz k e) }

/-- A world in which a block's cells, from an offset on, have turned. -/
structure Wrote (w w' : World) (b o : Nat) (us : List Value) : Prop where
  other : ∀ b', b' ≠ b → w'.heap[b']? = w.heap[b']?
  at_ : ∀ (off j : Nat) (v : Value), w.cell? ⟨b, off + j, none⟩ = some v → w'.cell? ⟨b, off + j, none⟩ = if o ≤ off + j ∧ off + j < o + us.length then us[off + j - o]? else some v
  open_ : ∀ n, openBlock w b n → openBlock w' b n

theorem row_setAt {w w' : World} {C : Ctx} {b base o sz k eo : Nat} {us : List Value} {l : List AV} {vs : List Value} {e : AV} {u : Value} (W : Wrote w w' b o us) (hsh : ∀ k, C.Sh k → k ≠ b)
    (hu : us = u.cells.toList) (hs : u.cells.size = sz) (h1 : ∀ x ∈ u.cells.toList, x.oneCell' = true) (hr : RepF w' C.Sh e u) (ho : o = base + k * sz)
    (hc : cellsAt w b (base + eo * sz) vs) (hrow : RepRow w C.Sh sz l vs) : ∃ vs', cellsAt w' b (base + eo * sz) vs' ∧ RepRow w' C.Sh sz (setAt sz k e eo l) vs' := by
  have hrow' : RepRow w' C.Sh sz l vs := RepRow.keep (fun k hk => ⟨hk, W.other k (hsh k hk)⟩) sz l vs hrow
  have hlen := hrow.length
  have hul : us.length = sz := by rw [hu]; simpa using hs
  unfold setAt
  by_cases hle : eo ≤ k
  · rw [if_pos hle]
    by_cases hlt : k - eo < l.length
    · refine ⟨putAt vs ((k - eo) * sz) u.cells.toList, ?_, hrow'.set hlt hs h1 hr⟩
      have hfit : (k - eo) * sz + u.cells.toList.length ≤ vs.length := by
        rw [hlen, Array.length_toList, hs]
        have : (k - eo + 1) * sz ≤ l.length * sz := Nat.mul_le_mul_right _ hlt
        rw [Nat.add_mul, Nat.one_mul] at this; exact this
      have hk : base + k * sz = base + eo * sz + (k - eo) * sz := by
        rw [Nat.add_assoc, ← Nat.add_mul, Nat.add_sub_cancel' hle]
      intro j v hj
      rw [putAt_get hfit] at hj
      have hjlen : j < vs.length := by
        by_cases hin : (k - eo) * sz ≤ j ∧ j < (k - eo) * sz + u.cells.toList.length
        · omega
        · rw [if_neg hin] at hj; exact (List.getElem?_eq_some_iff.1 hj).1
      have hold : vs[j]? = some vs[j] := List.getElem?_eq_getElem hjlen
      rw [W.at_ _ _ _ (hc j _ hold)]
      rw [← hu] at hj
      by_cases hin : (k - eo) * sz ≤ j ∧ j < (k - eo) * sz + us.length
      · rw [if_pos hin] at hj
        rw [if_pos (by rw [ho, hk]; omega)]
        rw [show base + eo * sz + j - o = j - (k - eo) * sz by rw [ho, hk]; omega]
        exact hj
      · rw [if_neg hin] at hj
        rw [if_neg (by rw [ho, hk]; omega)]
        rw [hold] at hj; exact hj
    · refine ⟨vs, ?_, ?_⟩
      · intro j v hj
        have hjl := (List.getElem?_eq_some_iff.1 hj).1
        rw [W.at_ _ _ _ (hc j v hj), if_neg]
        rw [hlen] at hjl
        have h2 : l.length * sz ≤ (k - eo) * sz := Nat.mul_le_mul_right _ (by omega)
        have hk : base + k * sz = base + eo * sz + (k - eo) * sz := by
          rw [Nat.add_assoc, ← Nat.add_mul, Nat.add_sub_cancel' hle]
        rw [ho, hk]; omega
      · rw [List.set_eq_of_length_le (by omega)]; exact hrow'
  · rw [if_neg hle]
    refine ⟨vs, ?_, hrow'⟩
    intro j v hj
    rw [W.at_ _ _ _ (hc j v hj), if_neg]
    have h2 : (k + 1) * sz ≤ eo * sz := Nat.mul_le_mul_right _ (by omega)
    rw [Nat.add_mul, Nat.one_mul] at h2
    rw [ho, hul]; omega

section
variable {w w' : World} {C : Ctx} {g : Stamp} {b base o sz k : Nat} {us : List Value} {e : AV} {u : Value}
  (W : Wrote w w' b o us) (hg : C.own g = .live b base) (hone : ∀ h base', C.own h = .live b base' → h = g) (hsh : ∀ k, C.Sh k → k ≠ b)
  (hu : us = u.cells.toList) (hs : u.cells.size = sz) (h1 : ∀ x ∈ u.cells.toList, x.oneCell' = true) (hr : RepF w' C.Sh e u) (ho : o = base + k * sz)
include W hg hone hsh hu hs h1 hr ho

mutual
theorem Rep.setA : ∀ (a : AV) (v : Value), Rep w C a v → Rep w' C (VS.setA g sz k e a) v
  | .undef, _, _ => trivial
  | .int .., _, h => h
  | .bool .., _, h => h
  | .str .., _, h => h
  | .sl none nb sz' l, v, h => RepF.keep (fun k hk => ⟨hk, W.other k (hsh k hk)⟩) _ v h
  | .sl (some (h, eo)) nb sz' l, v, hv => by
    simp only [VS.setA]
    by_cases e1 : h = g
    · rw [if_pos e1]
      subst e1
      by_cases e2 : sz' = sz
      · rw [if_pos e2]
        subst e2
        rcases hv with hv | ⟨h2, h3, h4⟩ | ⟨h0, b', base', off, cap, vs, h2, h2', h3, h4, h5, h6, h7⟩
        · exact .inl hv
        · refine .inr (.inl ⟨h2, ?_, h4⟩)
          subst h3; unfold setAt; split <;> rfl
        · rw [hg] at h2; cases h2
          by_cases hc0 : cap = 0
          · refine .inr (.inr ⟨h0, b, base, off, cap, vs, hg, h2', ?_, by rw [setAt_length]; exact h4, ?_, ?_, W.open_ _ h7⟩)
            · rw [setAt_length]; exact h3
            · have hl0 : l.length = 0 := by omega
              have := h6.length
              rw [hl0, Nat.zero_mul] at this
              rw [List.length_eq_zero_iff.1 this]
              intro j v hj; simp at hj
            · have hl0 : l = [] := List.length_eq_zero_iff.1 (by omega)
              subst hl0
              have : setAt sz' k e eo [] = [] := by unfold setAt; split <;> rfl
              rw [this]
              exact h6
          · obtain rfl : off = base + eo * sz' := h2'.resolve_right hc0
            obtain ⟨vs', h8, h9⟩ := row_setAt W hsh hu hs h1 hr ho h5 h6
            exact .inr (.inr ⟨h0, b, base, _, cap, vs', hg, .inl rfl, by rw [setAt_length]; exact h3, by rw [setAt_length]; exact h4, h8, h9, W.open_ _ h7⟩)
      · rw [if_neg e2]; trivial
    · rw [if_neg e1]
      rcases hv with hv | hv | ⟨h0, b', base', off, cap, vs, h2, h2', h3, h4, h5, h6, h7⟩
      · exact .inl hv
      · exact .inr (.inl hv)
      · have hne : b' ≠ b := fun x => e1 (hone h base' (x ▸ h2))
        exact .inr (.inr ⟨h0, b', base', off, cap, vs, h2, h2', h3, h4, h5.keep (W.other _ hne), RepRow.keep (fun k hk => ⟨hk, W.other k (hsh k hk)⟩) sz' l vs h6, h7.keep (W.other _ hne)⟩)
  | .ptr .., _, h => h
  | .nilp, _, h => h
  | .eptr none sz' l i off, v, h => RepF.keep (fun k hk => ⟨hk, W.other k (hsh k hk)⟩) _ v h
  | .eptr (some (h, eo)) sz' l i off, v, hv => by
    simp only [VS.setA]
    by_cases e1 : h = g
    · rw [if_pos e1]
      subst e1
      by_cases e2 : sz' = sz
      · rw [if_pos e2]
        subst e2
        rcases hv with hv | ⟨b', base', vs, h2, h3, h4, h4', h5, h6, h7⟩
        · exact .inl hv
        · rw [hg] at h2; cases h2
          obtain ⟨vs', h8, h9⟩ := row_setAt W hsh hu hs h1 hr ho h5 h6
          exact .inr ⟨b, base, vs', hg, h3, by rw [setAt_length]; exact h4, h4', h8, h9, by rw [setAt_length]; exact W.open_ _ h7⟩
      · rw [if_neg e2]; trivial
    · rw [if_neg e1]
      rcases hv with hv | ⟨b', base', vs, h2, h3, h4, h4', h5, h6, h7⟩
      · exact .inl hv
      · have hne : b' ≠ b := fun x => e1 (hone h base' (x ▸ h2))
        exact .inr ⟨b', base', vs, h2, h3, h4, h4', h5.keep (W.other _ hne), RepRow.keep (fun k hk => ⟨hk, W.other k (hsh k hk)⟩) sz' l vs h6, h7.keep (W.other _ hne)⟩
  | .agg cs, v, h => by
    obtain ⟨vs, h2, h3⟩ := h
    exact ⟨vs, h2, RepS.setL cs vs h3⟩
  | .tup cs, v, h => by
    obtain ⟨vs, h2, h3⟩ := h
    exact ⟨vs, h2, RepSU.setL cs vs h3⟩
  | .fn f cs, v, h => by
    obtain ⟨vs, h2, h3⟩ := h
    exact ⟨vs, h2, RepS.setL cs vs h3⟩
  | .nilf, _, h => h
  | .bsl .., _, h => h
theorem RepS.setL : ∀ (l : List AV) (vs : List Value), RepS w C l vs → RepS w' C (VS.setL g sz k e l) vs
  | [], _, h => h
  | c :: cs, _, h => by
    obtain ⟨v, r, h2, h0, h3, h4⟩ := h
    exact ⟨v, r, h2, h0, Rep.setA c v h3, RepS.setL cs r h4⟩
theorem RepSU.setL : ∀ (l : List AV) (vs : List Value), RepSU w C l vs → RepSU w' C (VS.setL g sz k e l) vs
  | [], _, h => h
  | c :: cs, _, h => by
    obtain ⟨v, r, h2, h3, h4⟩ := h
    exact ⟨v, r, h2, Rep.setA c v h3, RepSU.setL cs r h4⟩
end
end
end Go.VS
namespace Go.VS
set_option linter.unusedVariables false
set_option linter.unusedSimpArgs false
set_option linter.unusedSectionVars false
open Go
variable {P : Program}

/-- A whole element is stored. -/
def storeEl (P : Program) (st : St) (o : Oper) : Option St :=
  match o.op with
  | .store T a x =>
    match st.ev P 0 a with
    | .eptr (some (g, eo)) sz l i off =>
      need ((P.info? T).isSome = true ∧ off = 0 ∧ st.cons g = false ∧ st.frz g = false ∧ st.solid (st.ev P T x) = true ∧ (st.ev P T x).cells.length = P.cellsOf T ∧ P.cellsOf T = sz ∧
          frozable (st.ev P T x) = true ∧ stampsOf (st.ev P T x) = [])
        (some (st.setE g sz (eo + i) (froz (st.ev P T x))))
    | _ => none
  | _ => none

theorem wrote_setCells {w : World} {b o : Nat} {us : List Value} {c : Array Value} {e : TypeId} {fr : Nat × Nat} (hb : w.heap[b]? = some (.cells c e fr)) (hl : o + us.length ≤ c.size) :
    Wrote w (w.setCells b o us) b o us where
  other b' hb' := heap_setCells_ne _ _ _ _ hb'
  at_ off j v hv := by
    have h2 := heap_setCells_at us o w c e fr hb hl
    simp only [World.cell?, hb] at hv
    simp only [World.cell?, h2]
    simp only [Option.isSome_none, Bool.false_eq_true, if_false] at hv ⊢
    rw [List.getElem?_toArray, putAt_get (by simpa using hl)]
    split
    · rfl
    · simpa using hv
  open_ n h := by
    obtain ⟨c', e', lo, hi, h1, h2, h3, h4⟩ := h
    rw [hb] at h1; cases h1
    refine ⟨_, e, lo, hi, heap_setCells_at us o w c e (lo, hi) hb hl, ?_, ?_, h4⟩
    · simp only [List.size_toArray]
      rw [putAt_length (by simpa using hl), Array.length_toList]; exact h2
    · intro k hk
      simp only [List.size_toArray] at hk
      rw [putAt_length (by simpa using hl), Array.length_toList] at hk
      exact h3 k hk

theorem step_storeEl {X : Ent} {st st' : St} {o : Oper} (h : storeEl P st o = some st') (hd : o.dst = none) : OpStep P X st o st' :=
  OpStep.skip fun C a w hc => by
    unfold storeEl at h
    split at h
    · rename_i T ad x ho
      split at h
      · rename_i g eo sz l i off hp
        obtain ⟨⟨hI, hoff, hcons, hfrz, hs, hl, hsz, hfz, hst⟩, h''⟩ := need_some h
        cases h''
        subst hoff
        have hptr := hc.ev P 0 ad
        rw [hp] at hptr
        rcases hptr with hdead | ⟨b, base, vs, hg, hptr, hi, hlt, hcell, hrow, hopen⟩
        · have := (hc.cons g).2 hdead; rw [hcons] at this; cases this
        · have hev := hc.ev P T x
          have hr := rep_solid hc.cons hs hev
          have hlen := hr.length
          rw [Array.length_toList] at hlen
          obtain ⟨c, e, lo, hi', h2, hle, h3, _⟩ := hopen
          have m := hc.mem
          have hbsh : ∀ k, C.Sh k → k ≠ b := fun k hk e => m.ownSh g b base hg hfrz (e ▸ hk)
          have hbbox : ∀ id, C.box id ≠ some b := fun id e => m.ownBox g b base id hg hfrz e
          have hone : ∀ h base', C.own h = .live b base' → h = g := fun h base' hh => (m.ownOne g h b base base' hg hh hfrz).symm
          have hfz' : RepF w C.Sh (froz (st.ev P T x)) (a.eval x) := froz_ok _ _ hfz (by rw [hst]; intro g hg; cases hg) hev
          have hfit : base + eo * sz + i * sz + (a.eval x).cells.size ≤ c.size := by
            have : (i + 1) * sz ≤ l.length * sz := Nat.mul_le_mul_right _ hi
            rw [Nat.add_mul, Nat.one_mul] at this
            omega
          have hpos : base + eo * sz + i * sz = base + (eo + i) * sz := by rw [Nat.add_mul]; omega
          have W := wrote_setCells (us := (a.eval x).cells.toList) (o := base + eo * sz + i * sz) h2 (by simpa using hfit)
          have hfz2 : RepF (w.setCells b (base + eo * sz + i * sz) (a.eval x).cells.toList) C.Sh (froz (st.ev P T x)) (a.eval x) := RepF.keep (fun k hk => ⟨hk, W.other k (hbsh k hk)⟩) _ _ hfz'
          refine ⟨w.setCells b (base + eo * sz + i * sz) (a.eval x).cells.toList, C, ?_, ?_⟩
          · have hrun := run_storeAt (P := P) hI h2 h3 (v := a.eval x) (off := base + eo * sz + i * sz) (by omega) hfit (fun u hu => hr.one u hu)
            rw [Nat.add_zero] at hptr
            simp [execOp, ho, hptr, hrun]
          · rw [hd]
            have hsa := @Rep.setA w _ C g b base (base + eo * sz + i * sz) sz (eo + i) _ (froz (st.ev P T x)) (a.eval x) W hg hone hbsh rfl (by omega) (fun u hu => hr.one u hu) hfz2 hpos
            have hsl := @RepS.setL w _ C g b base (base + eo * sz + i * sz) sz (eo + i) _ (froz (st.ev P T x)) (a.eval x) W hg hone hbsh rfl (by omega) (fun u hu => hr.one u hu) hfz2 hpos
            exact { n := hc.n, slots := fun t => hsa _ _ (hc.slots t), defers := hc.defers,
                    boxes := fun id cs hid => by
                      simp only [St.setE, Option.map_eq_some_iff] at hid
                      obtain ⟨cs0, h0, rfl⟩ := hid
                      obtain ⟨b', c', e', lo', hi2, k1, k2, k3, k4⟩ := hc.boxes id cs0 h0
                      have hne : b' ≠ b := fun x => hbbox id (x ▸ k1)
                      exact ⟨b', c', e', lo', hi2, k1, (W.other _ hne).trans k2, k3, hsl _ _ k4⟩,
                    boxSome := fun id b' hb' => by
                      simp only [St.setE, Option.isSome_map]
                      exact hc.boxSome id b' hb',
                    mem := m.write (m.ownMine g b base hg hfrz), cons := hc.cons, made := hc.made, tg := hc.tg, tgInj := hc.tgInj, tgMade := hc.tgMade }
      · cases h
    · cases h
end Go.VS
