/- Part of a framework that states what Go functions answer on values as data; it holds for every program of the model. -/
import Derived.Test.YtijcpdgfbboamaaDoorVsCall2
namespace Go.VS
set_option linter.unusedVariables false
set_option linter.unusedSimpArgs false
set_option linter.unusedSectionVars false
open Go
variable {P : Program}

/-! ### The end of a region: names are put in order -/

inductive Fate where
  | gone
  | shared
  | named (h : Stamp)

def fate (st : St) (g : Stamp) : Fate :=
  if (st.cons g || (g.1 == 1 && !st.made g.2)) = true then .gone else if st.frz g = true then .shared else .named (st.tname g)

mutual
def thAV (F : Stamp → Fate) : AV → AV
  | .sl (some (g, eo)) nb sz l =>
    match F g with
    | .gone => .undef
    | .shared => .sl none nb sz l
    | .named h => .sl (some (h, eo)) nb sz l
  | .eptr (some _) _ _ _ _ => .undef
  | .agg cs => .agg (thL F cs)
  | .tup cs => .tup (thL F cs)
  | .fn f cs => .fn f (thL F cs)
  | v => v
def thL (F : Stamp → Fate) : List AV → List AV
  | [] => []
  | c :: cs => thAV F c :: thL F cs
end

mutual
theorem Rep.th {w : World} {C C' : Ctx} {F : Stamp → Fate} (hsh : C'.Sh = C.Sh) (hbx : C'.box = C.box) (hn : ∀ g h, F g = .named h → C'.own h = C.own g) (hs : ∀ g, F g = .shared → C.own g ≠ .dead ∧ ∀ b base, C.own g = .live b base → C.Sh b) :
    ∀ (a : AV) (v : Value), Rep w C a v → Rep w C' (thAV F a) v
  | .undef, _, _ => trivial
  | .int .., _, h => h
  | .bool .., _, h => h
  | .str .., _, h => h
  | .sl none nb sz l, v, h => by
    simp only [thAV, Rep] at h ⊢
    rw [hsh]; exact h
  | .sl (some (g, eo)) nb sz l, v, h => by
    simp only [thAV]
    split
    · trivial
    · rename_i e
      obtain ⟨hd, hg⟩ := hs g e
      rcases h with h | h | ⟨h0, b, base, off, cap, vs, h1, h1', h2, h3, h4, h5, h6⟩
      · exact absurd h hd
      · exact .inl h
      · exact .inr ⟨h0, b, off, cap, vs, none, h2, h3, .inr ⟨rfl, by rw [hsh]; exact hg b base h1, h4⟩, by rw [hsh]; exact h5⟩
    · rename_i h' e
      have ho := hn g h' e
      rcases h with h | h | ⟨h0, b, base, off, cap, vs, h1, h1', h2, h3, h4, h5, h6⟩
      · exact .inl (ho.trans h)
      · exact .inr (.inl h)
      · exact .inr (.inr ⟨h0, b, base, off, cap, vs, ho.trans h1, h1', h2, h3, h4, by rw [hsh]; exact h5, h6⟩)
  | .ptr id off, v, h => by
    obtain ⟨b, h1, h2⟩ := h
    exact ⟨b, by rw [hbx]; exact h1, h2⟩
  | .nilp, _, h => h
  | .eptr none sz l i off, v, h => by
    simp only [thAV, Rep] at h ⊢
    rw [hsh]; exact h
  | .eptr (some _) .., _, _ => trivial
  | .agg cs, v, h => by
    obtain ⟨vs, h1, h2⟩ := h
    exact ⟨vs, h1, RepS.th hsh hbx hn hs cs vs h2⟩
  | .tup cs, v, h => by
    obtain ⟨vs, h1, h2⟩ := h
    exact ⟨vs, h1, RepSU.th hsh hbx hn hs cs vs h2⟩
  | .fn f cs, v, h => by
    obtain ⟨vs, h1, h2⟩ := h
    exact ⟨vs, h1, RepS.th hsh hbx hn hs cs vs h2⟩
  | .nilf, _, h => h
  | .bsl id off len cap, v, h => by
    obtain ⟨b, h1, h2⟩ := h
    exact ⟨b, by rw [hbx]; exact h1, h2⟩
theorem RepS.th {w : World} {C C' : Ctx} {F : Stamp → Fate} (hsh : C'.Sh = C.Sh) (hbx : C'.box = C.box) (hn : ∀ g h, F g = .named h → C'.own h = C.own g) (hs : ∀ g, F g = .shared → C.own g ≠ .dead ∧ ∀ b base, C.own g = .live b base → C.Sh b) :
    ∀ (l : List AV) (vs : List Value), RepS w C l vs → RepS w C' (thL F l) vs
  | [], _, h => h
  | c :: cs, _, h => by
    obtain ⟨v, r, h1, h0, h2, h3⟩ := h
    exact ⟨v, r, h1, h0, Rep.th hsh hbx hn hs c v h2, RepS.th hsh hbx hn hs cs r h3⟩
theorem RepSU.th {w : World} {C C' : Ctx} {F : Stamp → Fate} (hsh : C'.Sh = C.Sh) (hbx : C'.box = C.box) (hn : ∀ g h, F g = .named h → C'.own h = C.own g) (hs : ∀ g, F g = .shared → C.own g ≠ .dead ∧ ∀ b base, C.own g = .live b base → C.Sh b) :
    ∀ (l : List AV) (vs : List Value), RepSU w C l vs → RepSU w C' (thL F l) vs
  | [], _, h => h
  | c :: cs, _, h => by
    obtain ⟨v, r, h1, h2, h3⟩ := h
    exact ⟨v, r, h1, Rep.th hsh hbx hn hs c v h2, RepSU.th hsh hbx hn hs cs r h3⟩
end

def St.settle (st : St) : St :=
  { s := fun t => thAV (fate st) (st.s t), bx := fun id => (st.bx id).map (thL (fate st)), cons := fun _ => false, frz := fun _ => false, made := fun _ => false, res := fun _ => none }

theorem fate_named {st : St} {g h : Stamp} (e : fate st g = .named h) : st.cons g = false ∧ (g.1 = 1 → st.made g.2 = true) ∧ st.frz g = false ∧ h = st.tname g := by
  unfold fate at e
  split at e
  · cases e
  · rename_i h1
    split at e
    · cases e
    · rename_i h2
      cases e
      simp only [Bool.or_eq_true, Bool.and_eq_true, beq_iff_eq, Bool.not_eq_true', not_or, not_and, Bool.not_eq_true, Bool.not_eq_false] at h1
      exact ⟨h1.1, h1.2, by simpa using h2, rfl⟩

theorem named_inj {X : Ent} {st : St} {C : Ctx} {a : Act} {w : World} (hc : Conc X st C a w) {g g' h : Stamp} (e : fate st g = .named h) (e' : fate st g' = .named h) : g = g' := by
  obtain ⟨c, m, f, t⟩ := fate_named e
  obtain ⟨c', m', f', t'⟩ := fate_named e'
  obtain ⟨g1, g2⟩ := g
  obtain ⟨g1', g2'⟩ := g'
  simp only at m m'
  unfold St.tname at t t'
  simp only at t t'
  by_cases e1 : g1 = 1 <;> by_cases e1' : g1' = 1
  · subst e1; subst e1'
    obtain ⟨x, hx⟩ := Option.isSome_iff_exists.1 (hc.tgMade g2 (m rfl))
    obtain ⟨x', hx'⟩ := Option.isSome_iff_exists.1 (hc.tgMade g2' (m' rfl))
    rw [hx] at t; rw [hx'] at t'
    simp only [if_true, Option.getD_some] at t t'
    have := hc.tgInj g2 g2' h c c' (by rw [hx, t]) (by rw [hx', t'])
    rw [this]
  · subst e1
    obtain ⟨x, hx⟩ := Option.isSome_iff_exists.1 (hc.tgMade g2 (m rfl))
    rw [hx] at t
    simp only [if_true, Option.getD_some] at t
    rw [if_neg e1'] at t'
    have := (hc.tg g2 x hx).1
    rw [← t, t', c'] at this; cases this
  · subst e1'
    obtain ⟨x', hx'⟩ := Option.isSome_iff_exists.1 (hc.tgMade g2' (m' rfl))
    rw [hx'] at t'
    simp only [if_true, Option.getD_some] at t'
    rw [if_neg e1] at t
    have := (hc.tg g2' x' hx').1
    rw [← t', t, c] at this; cases this
  · rw [if_neg e1] at t; rw [if_neg e1'] at t'
    rw [← t, ← t']

theorem named_not1 {X : Ent} {st : St} {C : Ctx} {a : Act} {w : World} (hc : Conc X st C a w) {g h : Stamp} (e : fate st g = .named h) : h.1 ≠ 1 := by
  obtain ⟨c, m, f, t⟩ := fate_named e
  subst t
  unfold St.tname
  split
  · rename_i e1
    obtain ⟨x, hx⟩ := Option.isSome_iff_exists.1 (hc.tgMade g.2 (m e1))
    rw [hx]
    exact (hc.tg g.2 x hx).2
  · assumption

open Classical in
theorem Conc.settle {X : Ent} {st : St} {C : Ctx} {a : Act} {w : World} (hc : Conc X st C a w) : ∃ C', Conc X st.settle C' a w := by
  let own' : Stamp → Own := fun h => if e : ∃ g, fate st g = .named h then C.own (Classical.choose e) else .none
  have hn : ∀ g h, fate st g = .named h → own' h = C.own g := by
    intro g h e
    have ex : ∃ g, fate st g = .named h := ⟨g, e⟩
    simp only [own', dif_pos ex]
    rw [named_inj hc (Classical.choose_spec ex) e]
  have back : ∀ h, own' h ≠ .none → ∃ g, fate st g = .named h ∧ own' h = C.own g := by
    intro h hh
    by_cases ex : ∃ g, fate st g = .named h
    · obtain ⟨g, e⟩ := ex
      exact ⟨g, e, hn g h e⟩
    · exact absurd (by simp only [own', dif_neg ex]) hh
  have hs : ∀ g, fate st g = .shared → C.own g ≠ .dead ∧ ∀ b base, C.own g = .live b base → C.Sh b := by
    intro g e
    unfold fate at e
    split at e
    · cases e
    · rename_i h1
      split at e
      · rename_i h2
        simp only [Bool.or_eq_true, not_or, Bool.not_eq_true] at h1
        exact ⟨fun x => (by have := (hc.cons g).2 x; rw [h1.1] at this; cases this), fun b base hb => hc.mem.ownFrz g b base hb h2⟩
      · cases e
  have live : ∀ h b base, own' h = .live b base → ∃ g, fate st g = .named h ∧ C.own g = .live b base ∧ st.frz g = false := by
    intro h b base hh
    obtain ⟨g, e, e2⟩ := back h (by rw [hh]; simp)
    exact ⟨g, e, by rw [← e2]; exact hh, (fate_named e).2.2.1⟩
  refine ⟨⟨C.Sh, own', C.box⟩, ?_⟩
  have th := @Rep.th w C ⟨C.Sh, own', C.box⟩ (fate st) rfl rfl hn hs
  have ths := @RepS.th w C ⟨C.Sh, own', C.box⟩ (fate st) rfl rfl hn hs
  have m := hc.mem
  refine { n := hc.n, slots := fun t => th _ _ (hc.slots t), defers := hc.defers, boxes := ?_, boxSome := ?_, mem := ?_, cons := ?_, made := ?_, tg := ?_, tgInj := ?_, tgMade := ?_ }
  · intro id cs hid
    simp only [St.settle, Option.map_eq_some_iff] at hid
    obtain ⟨cs0, h0, rfl⟩ := hid
    obtain ⟨b, c, e, lo, hi, h1, h2, h3, h4⟩ := hc.boxes id cs0 h0
    exact ⟨b, c, e, lo, hi, h1, h2, h3, ths _ _ h4⟩
  · intro id b hb
    have := hc.boxSome id b hb
    simp only [St.settle, Option.isSome_map]
    exact this
  · exact { shIn := m.shIn, shFrom := m.shFrom, shOld := m.shOld,
            ownIn := fun h b base hh => by obtain ⟨g, _, hg, _⟩ := live h b base hh; exact m.ownIn g b base hg,
            ownOne := fun h h' b base base' hh hh' _ => by
              obtain ⟨g, e, hg, hf⟩ := live h b base hh
              obtain ⟨g', e', hg', hf'⟩ := live h' b base' hh'
              have := m.ownOne g g' b base base' hg hg' hf
              subst this
              rw [e] at e'; cases e'; rfl,
            ownBox := fun h b base id hh _ hb => by obtain ⟨g, _, hg, hf⟩ := live h b base hh; exact m.ownBox g b base id hg hf hb,
            ownSh := fun h b base hh _ hb => by obtain ⟨g, _, hg, hf⟩ := live h b base hh; exact m.ownSh g b base hg hf hb,
            ownFrz := fun h b base hh hf => (by cases hf),
            ownMine := fun h b base hh _ => by obtain ⟨g, _, hg, hf⟩ := live h b base hh; exact m.ownMine g b base hg hf,
            boxIn := m.boxIn, boxOne := m.boxOne, boxSh := m.boxSh, boxMine := m.boxMine, kept := m.kept, size := m.size, os := m.os, tape := m.tape, output := m.output }
  · intro h
    simp only [St.settle]
    constructor
    · intro x; cases x
    · intro x
      obtain ⟨g, e, e2⟩ := back h (by rw [x]; simp)
      have := (hc.cons g).2 (by rw [← e2]; exact x)
      rw [(fate_named e).1] at this; cases this
  · intro d hd
    obtain ⟨g, e, _⟩ := back (1, d) hd
    exact absurd rfl (named_not1 hc e)
  · intro d h hh; cases hh
  · intro d d' h _ _ hh; cases hh
  · intro d hd; cases hd

/-! ### A box that is used no more -/

mutual
def dropAV (id : Nat) : AV → AV
  | .ptr i off => if i = id then .undef else .ptr i off
  | .bsl i off len cap => if i = id then .undef else .bsl i off len cap
  | .agg cs => .agg (dropL id cs)
  | .tup cs => .tup (dropL id cs)
  | .fn f cs => .fn f (dropL id cs)
  | v => v
def dropL (id : Nat) : List AV → List AV
  | [] => []
  | c :: cs => dropAV id c :: dropL id cs
end
mutual
theorem Rep.drop {w : World} {C : Ctx} {id : Nat} : ∀ (a : AV) (v : Value), Rep w C a v → Rep w { C with box := upd C.box id none } (dropAV id a) v
  | .undef, _, _ => trivial
  | .int .., _, h => h
  | .bool .., _, h => h
  | .str .., _, h => h
  | .sl none .., v, h => h
  | .sl (some _) .., v, h => h
  | .ptr i off, v, h => by
    simp only [dropAV]
    split
    · trivial
    · rename_i e
      obtain ⟨b, h1, h2⟩ := h
      exact ⟨b, by simp only [upd_ne _ _ e]; exact h1, h2⟩
  | .nilp, _, h => h
  | .eptr none .., v, h => h
  | .eptr (some _) .., v, h => h
  | .agg cs, v, h => by
    obtain ⟨vs, h1, h2⟩ := h
    exact ⟨vs, h1, RepS.dropB cs vs h2⟩
  | .tup cs, v, h => by
    obtain ⟨vs, h1, h2⟩ := h
    exact ⟨vs, h1, RepSU.dropB cs vs h2⟩
  | .fn f cs, v, h => by
    obtain ⟨vs, h1, h2⟩ := h
    exact ⟨vs, h1, RepS.dropB cs vs h2⟩
  | .nilf, _, h => h
  | .bsl i off len cap, v, h => by
    simp only [dropAV]
    split
    · trivial
    · rename_i e
      obtain ⟨b, h1, h2⟩ := h
      exact ⟨b, by simp only [upd_ne _ _ e]; exact h1, h2⟩
theorem RepS.dropB {w : World} {C : Ctx} {id : Nat} : ∀ (l : List AV) (vs : List Value), RepS w C l vs → RepS w { C with box := upd C.box id none } (dropL id l) vs
  | [], _, h => h
  | c :: cs, _, h => by
    obtain ⟨v, r, h1, h0, h2, h3⟩ := h
    exact ⟨v, r, h1, h0, Rep.drop c v h2, RepS.dropB cs r h3⟩
theorem RepSU.dropB {w : World} {C : Ctx} {id : Nat} : ∀ (l : List AV) (vs : List Value), RepSU w C l vs → RepSU w { C with box := upd C.box id none } (dropL id l) vs
  | [], _, h => h
  | c :: cs, _, h => by
    obtain ⟨v, r, h1, h2, h3⟩ := h
    exact ⟨v, r, h1, Rep.drop c v h2, RepSU.dropB cs r h3⟩
end

def St.dropBox (st : St) (id : Nat) : St :=
  { st with s := fun t => dropAV id (st.s t), bx := upd (fun k => (st.bx k).map (dropL id)) id none }

theorem Conc.dropBox {X : Ent} {st : St} {C : Ctx} {a : Act} {w : World} (hc : Conc X st C a w) (id : Nat) (hid : id < 1000000) : Conc X (st.dropBox id) { C with box := upd C.box id none } a w := by
  have m := hc.mem
  have bk : ∀ k b, upd C.box id none k = some b → k ≠ id ∧ C.box k = some b := by
    intro k b hb
    by_cases e : k = id
    · subst e; simp at hb
    · rw [upd_ne _ _ e] at hb; exact ⟨e, hb⟩
  refine { n := hc.n, slots := fun t => Rep.drop _ _ (hc.slots t), defers := hc.defers, boxes := ?_, boxSome := ?_, mem := ?_, cons := hc.cons, made := hc.made, tg := hc.tg, tgInj := hc.tgInj, tgMade := hc.tgMade }
  · intro k cs hk
    by_cases e : k = id
    · subst e; simp [St.dropBox] at hk
    · simp only [St.dropBox, upd_ne _ _ e, Option.map_eq_some_iff] at hk
      obtain ⟨cs0, h0, rfl⟩ := hk
      obtain ⟨b, c, e2, lo, hi, h1, h2, h3, h4⟩ := hc.boxes k cs0 h0
      exact ⟨b, c, e2, lo, hi, by simp only [upd_ne _ _ e]; exact h1, h2, h3, RepS.dropB _ _ h4⟩
  · intro k b hb
    obtain ⟨e, hb⟩ := bk k b hb
    simp only [St.dropBox, upd_ne _ _ e, Option.isSome_map]
    exact hc.boxSome k b hb
  · exact { shIn := m.shIn, shFrom := m.shFrom, shOld := m.shOld, ownIn := m.ownIn, ownOne := m.ownOne, ownBox := fun g b base k hg hf hb => m.ownBox g b base k hg hf (bk k b hb).2,
            ownSh := m.ownSh, ownFrz := m.ownFrz, ownMine := m.ownMine, boxIn := fun k b hb => m.boxIn k b (bk k b hb).2, boxOne := fun k k' b h1 h2 => m.boxOne k k' b (bk k b h1).2 (bk k' b h2).2,
            boxSh := fun k b hb => m.boxSh k b (bk k b hb).2, boxMine := fun k b hb => m.boxMine k b (bk k b hb).2, kept := m.kept, size := m.size, os := m.os, tape := m.tape, output := m.output,
            inB := fun k b hb => by
              have e : k ≠ id := fun e => by have := X.inBig k b hb; omega
              simp only [upd_ne _ _ e]; exact m.inB k b hb }

/-- Slots that are looked at no more. -/
def St.keep (st : St) (ks : List Nat) : St := { st with s := fun t => if ks.contains t = true then st.s t else .undef }

theorem Conc.keep {X : Ent} {st : St} {C : Ctx} {a : Act} {w : World} (hc : Conc X st C a w) (ks : List Nat) : Conc X (st.keep ks) C a w where
  n := hc.n
  slots t := by
    simp only [St.keep]
    split
    · exact hc.slots t
    · trivial
  defers := hc.defers
  boxes := hc.boxes
  boxSome := hc.boxSome
  mem := hc.mem
  cons := hc.cons
  made := hc.made
  tg := hc.tg
  tgInj := hc.tgInj
  tgMade := hc.tgMade
end Go.VS
